/- WideDigits: a text has one form; a nought ahead, a sign, a blank, and it is none; one digit more is ten times as much and more. For every two words and number; no condition. -/
import Derived.Test.YtpmnghobcciiaaaDoorL1Awake
import Derived.Test.YtpmnghobcciiaaaDoorParse
import Derived.Test.YtpmnghobcciiaaaDoorTied
import Derived.Test.YtpmnghobcciiaaaDoorTie
import Derived.Test.YtpmnghobcciiaaaDoorCards
namespace Go.Proofs.YtpmnghobcciiaaaDoor
open Go.ChangeShapes Go.WideShapes Go.ChangeAt Go.RowKit

theorem cat_list (a b : ByteArray) : (a ++ b).data.toList = a.data.toList ++ b.data.toList := by simp
theorem bad_nought (n : Nat) : okL (48 :: Lib.decDigits n) = false := by
  unfold okL
  rw [Bool.and_eq_false_iff, decide_eq_false_iff_not]
  left
  intro e
  have hv : decVal (48 :: Lib.decDigits n) = n := by
    have := dec_val n
    unfold decVal at *
    rw [List.foldl_cons]
    simpa using this
  rw [hv] at e
  have := congrArg List.length e
  simp at this
theorem dig_more (n : Nat) : okL (Lib.decDigits n ++ [55]) = (decide (1 ≤ n) && decide (n * 10 + 7 < 340282366920938463463374607431768211456)) ∧ decVal (Lib.decDigits n ++ [55]) = n * 10 + 7 := by
  have hv : decVal (Lib.decDigits n ++ [55]) = n * 10 + 7 := by rw [decVal_snoc, dec_val]; simp; omega
  refine ⟨?_, hv⟩
  unfold okL
  rw [hv]
  congr 1
  rw [decide_eq_decide]
  constructor
  · intro e
    rcases Nat.eq_zero_or_pos n with rfl | h
    · have := congrArg List.length e
      rw [dec_small (u := 0) (by omega), dec_small (u := 0 * 10 + 7) (by omega)] at this
      simp at this
    · exact h
  · intro h
    rw [dec_big (u := n * 10 + 7) (by omega), show (n * 10 + 7) / 10 = n from by omega, show (n * 10 + 7) % 10 = 7 from by omega]
    rfl

theorem parse_no (x : ByteArray) (h : okL x.data.toList = false) (w : World) (ht : Tab w) :
    Calls Tryd.prog 29 #[.string x] w fun e w' => e = .returned (.tuple #[.agg #[.int .u64 0, .int .u64 0], .bool false]) ∧ Below w.heap.size w w' := by
  have := parse_any x w ht
  rw [parse_bad h] at this
  exact this
theorem num_list (n : Int) : (numeral n).data.toList = Lib.decDigits n.toNat := rfl
theorem one_list (b : UInt8) : (⟨#[b]⟩ : ByteArray).data.toList = [b] := rfl

/-- The facts that every walk here needs: the numeral's text put together with one letter. -/
structure Cat (P : Program) (z : ByteArray) : Prop where
  front : ∀ (b : UInt8) (w : World), (Op.stringOp .add ⟨#[b]⟩ z).run P w = .ok (.string (⟨#[b]⟩ ++ z)) w
  back : ∀ (b : UInt8) (w : World), (Op.stringOp .add z ⟨#[b]⟩).run P w = .ok (.string (z ++ ⟨#[b]⟩)) w
  n1 : ¬ 9223372036854775807 < 1 + z.size
  n2 : ¬ 9223372036854775807 < z.size + 1
theorem cat_of (P : Program) {n : Int} (h : Big n) : Cat P (numeral n) := by
  have hz : (numeral n).size ≤ 39 := dec_len 39 _ (by omega) (by unfold Big at h; omega)
  refine ⟨fun b w => run_string_add_sum w _ _ ?_, fun b w => run_string_add_sum w _ _ ?_, by omega, by omega⟩
  · rw [show (⟨#[b]⟩ : ByteArray).size = 1 from rfl]; omega
  · rw [show (⟨#[b]⟩ : ByteArray).size = 1 from rfl]; omega

set_option maxHeartbeats 8000000 in
set_option maxRecDepth 100000 in
theorem digits_bad (h l how : Int) (h1 : Word h) (h2 : Word l) (h0 : 0 ≤ how) (h6 : how < 6) (w : World) (htab : Tab w) :
    Calls Tryd.prog 10 #[.int .u64 h, .int .u64 l, .int .i64 how] w fun e w' => e = .returned (.bool true) ∧ Below w.heap.size w w' := by
  have hN := num_big h1 h2
  obtain ⟨c1, c2, c3, c4⟩ := cat_of Tryd.prog hN
  have HT := fun w ht => text_any h l h1 h2 w ht
  have hp := dec_pos (num h l).toNat
  have p0 : okL ((⟨#[48]⟩ : ByteArray) ++ numeral (num h l)).data.toList = false := by rw [cat_list, one_list, num_list]; exact bad_nought _
  have p1 : okL ((⟨#[43]⟩ : ByteArray) ++ numeral (num h l)).data.toList = false := by rw [cat_list, one_list, num_list]; exact bad_digit (i := 0) (by simp) (.inl (by simp))
  have p2 : okL ((⟨#[45]⟩ : ByteArray) ++ numeral (num h l)).data.toList = false := by rw [cat_list, one_list, num_list]; exact bad_digit (i := 0) (by simp) (.inl (by simp))
  have p3 : okL ((⟨#[32]⟩ : ByteArray) ++ numeral (num h l)).data.toList = false := by rw [cat_list, one_list, num_list]; exact bad_digit (i := 0) (by simp) (.inl (by simp))
  have p4 : okL (numeral (num h l) ++ (⟨#[32]⟩ : ByteArray)).data.toList = false := by rw [cat_list, one_list, num_list]; exact bad_digit (i := (Lib.decDigits (num h l).toNat).length) (by simp) (.inl (by simp))
  have p5 : okL (⟨#[]⟩ : ByteArray).data.toList = false := bad_nil
  have HP := fun x hx w ht => parse_no x hx w ht
  generalize numeral (num h l) = z at *
  clear hN h1 h2 hp
  have hh : how = 0 ∨ how = 1 ∨ how = 2 ∨ how = 3 ∨ how = 4 ∨ how = 5 := by omega
  rcases hh with rfl | rfl | rfl | rfl | rfl | rfl
  all_goals
    clear h0 h6
    go_enter Tryd.func10, Tryd.ntmps10
    go_wp2_with fail
    refine (lw_any _ _ _).mono ?_; rintro e w1 ⟨rfl, hB1⟩; obtain ⟨hc1, hf1⟩ := keep hB1; have hz1 := hB1.size; try simp at hz1
    go_wp2_with fail
    refine (HT _ (htab.below (by (repeat' (first | (with_reducible exact Below.refl _ _) | (with_reducible assumption) | (with_reducible refine Below.alloc ?_ ?_ _) | (with_reducible refine Below.drew ?_) | (with_reducible refine drewN_below ?_ _) | (with_reducible refine Below.setCell ?_ ?_ _) | (with_reducible refine below_call (by with_reducible assumption) ?_ ?_) | (first | (with_reducible exact Nat.le_refl _) | (with_reducible assumption) | omega | (simp; done) | (simp; omega))))))).mono ?_; rintro e w2 ⟨rfl, hB2⟩; obtain ⟨hc2, hf2⟩ := keep hB2; have hz2 := hB2.size; try simp at hz2
    go_wp2_with fail
    refine (HP _ (by assumption) _ (htab.below (by (repeat' (first | (with_reducible exact Below.refl _ _) | (with_reducible assumption) | (with_reducible refine Below.alloc ?_ ?_ _) | (with_reducible refine Below.drew ?_) | (with_reducible refine drewN_below ?_ _) | (with_reducible refine Below.setCell ?_ ?_ _) | (with_reducible refine below_call (by with_reducible assumption) ?_ ?_) | (first | (with_reducible exact Nat.le_refl _) | (with_reducible assumption) | omega | (simp; done) | (simp; omega))))))).mono ?_; rintro e w3 ⟨rfl, hB3⟩; obtain ⟨hc3, hf3⟩ := keep hB3; have hz3 := hB3.size; try simp at hz3
    go_wp2_with fail
    (refine wp_region_text (by kernel_rfl) (by kernel_rfl) ?_; (repeat (first | (refine step_val (v := ?_) (by rfl) ?_ ?_; rotate_left; (· (intro z hz; obtain ⟨hc, hf⟩ := keep hz; go_simp; first | done | (with_reducible rfl))); (try simp only [Act.put, List.setIfInBounds_toArray, List.set_cons_zero, List.set_cons_succ])) | (refine step_skip (by rfl) ?_; (try simp only [Act.put, List.setIfInBounds_toArray, List.set_cons_zero, List.set_cons_succ])) | (refine step_call (v := ?_) (f := ?_) (args := ?_) (by rfl) ?_ ?_ ?_; rotate_left; rotate_left; rotate_left; (· (intro z hz; go_simp; first | done | (with_reducible rfl) | (constructor <;> with_reducible rfl))); (· (intro z hz; first | (go_at_call 18; refine (lw_any _ _ _).mono ?_; rintro e w' ⟨rfl, hB⟩; refine ⟨?_, hz.trans (hB.mono hz.size)⟩; with_reducible rfl) | (go_at_call 15; refine (awake1_any _ (htab.below (by (repeat' (first | (with_reducible exact Below.refl _ _) | (with_reducible assumption) | (with_reducible refine Below.alloc ?_ ?_ _) | (with_reducible refine Below.drew ?_) | (with_reducible refine drewN_below ?_ _) | (with_reducible refine Below.setCell ?_ ?_ _) | (with_reducible refine below_call (by with_reducible assumption) ?_ ?_) | (first | (with_reducible exact Nat.le_refl _) | (with_reducible assumption) | omega | (simp; done) | (simp; omega))))))).mono ?_; rintro e w' ⟨rfl, hB⟩; refine ⟨?_, hz.trans (hB.mono hz.size)⟩; with_reducible rfl))); (try simp only [Act.put, List.setIfInBounds_toArray, List.set_cons_zero, List.set_cons_succ])))); refine steps_end ?_; intro w' hB; obtain ⟨hc, hf⟩ := keep hB; have hz := hB.size; try simp at hz)
    go_wp2
    go_ret
    exact ⟨rfl, by (repeat' (first | (with_reducible exact Below.refl _ _) | (with_reducible assumption) | (with_reducible refine Below.alloc ?_ ?_ _) | (with_reducible refine Below.drew ?_) | (with_reducible refine drewN_below ?_ _) | (with_reducible refine Below.setCell ?_ ?_ _) | (with_reducible refine below_call (by with_reducible assumption) ?_ ?_) | (first | (with_reducible exact Nat.le_refl _) | (with_reducible assumption) | omega | (simp; done) | (simp; omega))))⟩

theorem digit_more {h l : Int} (h1 : Word h) (h2 : Word l) : okL (numeral (num h l) ++ (⟨#[55]⟩ : ByteArray)).data.toList = (decide (1 ≤ num h l) && decide (num h l * 10 + 7 < 340282366920938463463374607431768211456)) ∧
    ((decVal (numeral (num h l) ++ (⟨#[55]⟩ : ByteArray)).data.toList : Nat) : Int) = num h l * 10 + 7 := by
  have hN := num_big h1 h2
  have e2 : (((num h l).toNat : Nat) : Int) = num h l := by unfold Big at hN; omega
  rw [cat_list, one_list, num_list, (dig_more _).1, (dig_more _).2]
  refine ⟨?_, by omega⟩
  congr 1 <;> (rw [decide_eq_decide]; omega)
theorem nought_iff {n : Int} (h : Big n) : ((numeral n).toList == (⟨#[48]⟩ : ByteArray).toList) = decide (n = 0) := by
  rw [str_beq, decide_eq_decide]
  constructor
  · intro e
    have e' : Lib.decDigits n.toNat = [48] := congrArg (fun b : ByteArray => b.data.toList) e
    have e3 : Lib.decDigits 0 = [48] := dec_small (by omega)
    have := dec_inj (e'.trans e3.symm)
    unfold Big at h
    omega
  · rintro rfl
    unfold numeral
    rw [show (0 : Int).toNat = 0 from rfl, dec_small (by omega)]
    rfl

set_option maxHeartbeats 8000000 in
set_option maxRecDepth 100000 in
theorem digits_good (h l how : Int) (h1 : Word h) (h2 : Word l) (hh : how < 0 ∨ 6 ≤ how) (w : World) (htab : Tab w) :
    Calls Tryd.prog 10 #[.int .u64 h, .int .u64 l, .int .i64 how] w fun e w' => e = .returned (.bool true) ∧ Below w.heap.size w w' := by
  have hN := num_big h1 h2
  obtain ⟨c1, c2, c3, c4⟩ := cat_of Tryd.prog hN
  have HT := fun w ht => text_any h l h1 h2 w ht
  have HM := fun w => wtimes_any h l 10 h1 h2 (by unfold Word; omega) w
  have hnz := nought_iff hN
  have hnz2 : ((numeral (num h l)).toList == [48]) = decide (num h l = 0) := by
    rw [← hnz, show (⟨#[48]⟩ : ByteArray).toList = [48] from by rw [ByteArray.toList_eq]]
  have HA := fun w => wadd_any (hiOf (num h l * 10)) (loOf (num h l * 10)) 0 7 (hiOf_word _) (loOf_word _) (by unfold Word; omega) (by unfold Word; omega) w
  obtain ⟨hok, hval⟩ := digit_more h1 h2
  have HP := fun w ht => parse_any (numeral (num h l) ++ (⟨#[55]⟩ : ByteArray)) w ht
  have hg0 : how < 0 ∨ (¬ how < 0 ∧ 6 ≤ how) := by omega
  by_cases h0 : num h l = 0
  · have hok' : okL (numeral (num h l) ++ (⟨#[55]⟩ : ByteArray)).data.toList = false := by rw [hok, decide_eq_false (by omega)]; rfl
    rw [parse_bad hok'] at HP
    rw [h0] at HM HA
    rw [decide_eq_true h0] at hnz hnz2
    have t0 : topOf (0 * 10) = 0 := by decide
    have o0 : overB (num (hiOf (0 * 10)) (loOf (0 * 10)) + num 0 7) = false := by decide
    rw [t0] at HM
    rw [o0] at HA
    generalize numeral (num h l) = z at *
    generalize num (hiOf (0 * 10)) (loOf (0 * 10)) + num 0 7 = S at *
    generalize hiOf (0 * 10) = m1 at *
    generalize loOf (0 * 10) = m0 at *
    clear hok hok' hval h0 t0 o0 hN h1 h2 hh
    rcases hg0 with hg | ⟨hg, hg'⟩
    all_goals
      go_enter Tryd.func10, Tryd.ntmps10
      go_wp2_with fail
      refine (lw_any _ _ _).mono ?_; rintro e w1 ⟨rfl, hB1⟩; obtain ⟨hc1, hf1⟩ := keep hB1; have hz1 := hB1.size; try simp at hz1
      go_wp2_with fail
      refine (HT _ (htab.below (by (repeat' (first | (with_reducible exact Below.refl _ _) | (with_reducible assumption) | (with_reducible refine Below.alloc ?_ ?_ _) | (with_reducible refine Below.drew ?_) | (with_reducible refine drewN_below ?_ _) | (with_reducible refine Below.setCell ?_ ?_ _) | (with_reducible refine below_call (by with_reducible assumption) ?_ ?_) | (first | (with_reducible exact Nat.le_refl _) | (with_reducible assumption) | omega | (simp; done) | (simp; omega))))))).mono ?_; rintro e w2 ⟨rfl, hB2⟩; obtain ⟨hc2, hf2⟩ := keep hB2; have hz2 := hB2.size; try simp at hz2
      go_wp2_with fail
      refine (HP _ (htab.below (by (repeat' (first | (with_reducible exact Below.refl _ _) | (with_reducible assumption) | (with_reducible refine Below.alloc ?_ ?_ _) | (with_reducible refine Below.drew ?_) | (with_reducible refine drewN_below ?_ _) | (with_reducible refine Below.setCell ?_ ?_ _) | (with_reducible refine below_call (by with_reducible assumption) ?_ ?_) | (first | (with_reducible exact Nat.le_refl _) | (with_reducible assumption) | omega | (simp; done) | (simp; omega))))))).mono ?_; rintro e w3 ⟨rfl, hB3⟩; obtain ⟨hc3, hf3⟩ := keep hB3; have hz3 := hB3.size; try simp at hz3
      go_wp2_with fail
      refine (lw_any _ _ _).mono ?_; rintro e w4 ⟨rfl, hB4⟩; obtain ⟨hc4, hf4⟩ := keep hB4; have hz4 := hB4.size; try simp at hz4
      go_wp2_with fail
      refine (HM _).mono ?_; rintro e w5 ⟨rfl, hB5⟩; obtain ⟨hc5, hf5⟩ := keep hB5; have hz5 := hB5.size; try simp at hz5
      go_wp2_with fail
      have hBB : Below w.heap.size w w5 := by (repeat' (first | (with_reducible exact Below.refl _ _) | (with_reducible assumption) | (with_reducible refine Below.alloc ?_ ?_ _) | (with_reducible refine Below.drew ?_) | (with_reducible refine drewN_below ?_ _) | (with_reducible refine Below.setCell ?_ ?_ _) | (with_reducible refine below_call (by with_reducible assumption) ?_ ?_) | (first | (with_reducible exact Nat.le_refl _) | (with_reducible assumption) | omega | (simp; done) | (simp; omega))))
      (refine wp_region_cells [(6, 7)] 6 (fun c => match c with | _ => ⟨15, 24, #[.int .u64 0, .int .u64 0], #[.int .u64 (hiOf S), .int .u64 (loOf S)]⟩) (by kernel_rfl) (by kernel_rfl) (by kernel_rfl) ⟨⟨_, rfl, rfl, rfl, ?_⟩, True.intro⟩ ?_; (· (intro a z; go_simp; first | done | (with_reducible rfl) | rfl)); (repeat (first | (refine stepC_val (v := ?_) (by rfl) (by rfl) ?_ ?_; rotate_left; (· (intro z hz; obtain ⟨hc, hf⟩ := keep hz; go_simp; first | done | (with_reducible rfl))); (try simp only [Act.put, List.setIfInBounds_toArray, List.set_cons_zero, List.set_cons_succ])) | (refine stepC_skip (by rfl) (by rfl) ?_; (try simp only [Act.put, List.setIfInBounds_toArray, List.set_cons_zero, List.set_cons_succ])) | (refine stepC_call (v := ?_) (f := ?_) (args := ?_) (by rfl) (by rfl) (by rfl) ?_ ?_ ?_; rotate_left; rotate_left; rotate_left; (· (intro z hz; (go_simp; first | done | (with_reducible rfl) | (constructor <;> with_reducible rfl)))); (· (intro z hz; first | (go_at_call 18; refine (lw_any _ _ _).mono ?_; rintro e w' ⟨rfl, hB⟩; refine ⟨?_, hB⟩; with_reducible rfl) | (go_at_call 16; refine (HA _).mono ?_; rintro e w' ⟨rfl, hB⟩; refine ⟨?_, hB⟩; with_reducible rfl))); (try simp only [Act.put, List.setIfInBounds_toArray, List.set_cons_zero, List.set_cons_succ])) | (refine stepC_store (t := 24) (cs0 := #[.int .u64 0, .int .u64 0]) (cs1 := #[.int .u64 (hiOf S), .int .u64 (loOf S)]) (by rfl) (by rfl) ⟨rfl, rfl, rfl⟩ (by rfl) (by rfl) (by rfl) ?_ ?_; (· (intro z hb1_7 hk; have k0 := hk.cell 0; have g0 := hk.frozen 0; (try simp at k0); have k1 := hk.cell 1; have g1 := hk.frozen 1; (try simp at k1); refine ⟨?_, ?_, ?_, ?_, ?_⟩; rotate_left; (· (go_simp; first | done | (with_reducible rfl) | (constructor <;> with_reducible rfl))); (· (intro W hW; exact ((hW.setCell hb1_7 _).setCell hb1_7 _))); (· exact ((hk.set_ 0 (.int .u64 (hiOf S))).set_ 1 (.int .u64 (loOf S)))); (· (intro b' t' cs' hne h; exact ((h.set_far hne 0 _).set_far hne 1 _))))); (try simp only [Act.put, List.setIfInBounds_toArray, List.set_cons_zero, List.set_cons_succ])))); (refine stepC_new (by rfl) (by rfl) (by rfl) ?_; intro b0_7 hb0_7; (try simp only [Act.put, List.setIfInBounds_toArray, List.set_cons_zero, List.set_cons_succ])); (repeat (first | (refine stepC_val (v := ?_) (by rfl) (by rfl) ?_ ?_; rotate_left; (· (intro z hz; obtain ⟨hc, hf⟩ := keep hz; go_simp; first | done | (with_reducible rfl))); (try simp only [Act.put, List.setIfInBounds_toArray, List.set_cons_zero, List.set_cons_succ])) | (refine stepC_skip (by rfl) (by rfl) ?_; (try simp only [Act.put, List.setIfInBounds_toArray, List.set_cons_zero, List.set_cons_succ])) | (refine stepC_call (v := ?_) (f := ?_) (args := ?_) (by rfl) (by rfl) (by rfl) ?_ ?_ ?_; rotate_left; rotate_left; rotate_left; (· (intro z hz; (go_simp; first | done | (with_reducible rfl) | (constructor <;> with_reducible rfl)))); (· (intro z hz; first | (go_at_call 18; refine (lw_any _ _ _).mono ?_; rintro e w' ⟨rfl, hB⟩; refine ⟨?_, hB⟩; with_reducible rfl) | (go_at_call 16; refine (HA _).mono ?_; rintro e w' ⟨rfl, hB⟩; refine ⟨?_, hB⟩; with_reducible rfl))); (try simp only [Act.put, List.setIfInBounds_toArray, List.set_cons_zero, List.set_cons_succ])) | (refine stepC_store (t := 24) (cs0 := #[.int .u64 0, .int .u64 0]) (cs1 := #[.int .u64 (hiOf S), .int .u64 (loOf S)]) (by rfl) (by rfl) ⟨rfl, rfl, rfl⟩ (by rfl) (by rfl) (by rfl) ?_ ?_; (· (intro z hb1_7 hk; have k0 := hk.cell 0; have g0 := hk.frozen 0; (try simp at k0); have k1 := hk.cell 1; have g1 := hk.frozen 1; (try simp at k1); refine ⟨?_, ?_, ?_, ?_, ?_⟩; rotate_left; (· (go_simp; first | done | (with_reducible rfl) | (constructor <;> with_reducible rfl))); (· (intro W hW; exact ((hW.setCell hb1_7 _).setCell hb1_7 _))); (· exact ((hk.set_ 0 (.int .u64 (hiOf S))).set_ 1 (.int .u64 (loOf S)))); (· (intro b' t' cs' hne h; exact ((h.set_far hne 0 _).set_far hne 1 _))))); (try simp only [Act.put, List.setIfInBounds_toArray, List.set_cons_zero, List.set_cons_succ])))); refine stepC_end ?_; intro w7 hI; obtain ⟨hB7, hE, hJ⟩ := hI; obtain ⟨hc7, hf7⟩ := bkeep hB7; have hz7 := hB7.size; (try simp at hz7); have hbk0_7 : Blk w7 b0_7 24 (#[.int .u64 (hiOf S), .int .u64 (loOf S)]) := (hE 0).2; have hbl0_7 := hbk0_7.lt; have hk0_0_7 := hbk0_7.cell 0; have hg0_0_7 := hbk0_7.frozen 0; (try simp at hk0_0_7); have hk0_1_7 := hbk0_7.cell 1; have hg0_1_7 := hbk0_7.frozen 1; (try simp at hk0_1_7); clear hE hJ; (try simp at hb0_7))
      clear hc7 hf7
      go_wp2_with fail
      refine (awake1_any _ (htab.below (by (repeat' (first | (with_reducible exact Below.refl _ _) | (with_reducible assumption) | (with_reducible refine Below.alloc ?_ ?_ _) | (with_reducible refine Below.drew ?_) | (with_reducible refine drewN_below ?_ _) | (with_reducible refine Below.setCell ?_ ?_ _) | (with_reducible refine below_call (by with_reducible assumption) ?_ ?_) | (first | (with_reducible exact Nat.le_refl _) | (with_reducible assumption) | omega | (simp; done) | (simp; omega))))))).mono ?_; rintro e w8 ⟨rfl, hB8⟩; obtain ⟨hc8, hf8⟩ := keep hB8; have hz8 := hB8.size; try simp at hz8
      go_wp2
      go_ret
      exact ⟨rfl, by (repeat' (first | (with_reducible exact Below.refl _ _) | (with_reducible assumption) | (with_reducible refine Below.alloc ?_ ?_ _) | (with_reducible refine Below.drew ?_) | (with_reducible refine drewN_below ?_ _) | (with_reducible refine Below.setCell ?_ ?_ _) | (with_reducible refine below_call (by with_reducible assumption) ?_ ?_) | (first | (with_reducible exact Nat.le_refl _) | (with_reducible assumption) | omega | (simp; done) | (simp; omega))))⟩
  · have hN' := hN
    unfold Big at hN'
    rw [decide_eq_false h0] at hnz hnz2
    rw [decide_eq_true (by omega : 1 ≤ num h l), Bool.true_and] at hok
    have hn7 : num 0 7 = 7 := rfl
    rw [hn7] at HA
    by_cases hb : num h l * 10 < 340282366920938463463374607431768211456
    · have hB10 : Big (num h l * 10) := by unfold Big; omega
      have t0 : topOf (num h l * 10) = 0 := by unfold topOf; omega
      rw [t0] at HM
      rw [num_hl hB10] at HA
      by_cases hb7 : num h l * 10 + 7 < 340282366920938463463374607431768211456
      · have o0 : overB (num h l * 10 + 7) = false := by unfold overB; simp; omega
        rw [o0] at HA
        rw [decide_eq_true hb7] at hok
        rw [parse_good hok, hval] at HP
        generalize numeral (num h l) = z at *
        generalize num h l * 10 + 7 = S at *
        generalize hiOf (num h l * 10) = m1 at *
        generalize loOf (num h l * 10) = m0 at *
        clear hok hval h0 t0 o0 hN h1 h2 hh hN' hB10 hb hb7 hn7
        rcases hg0 with hg | ⟨hg, hg'⟩
        all_goals
          go_enter Tryd.func10, Tryd.ntmps10
          go_wp2_with fail
          refine (lw_any _ _ _).mono ?_; rintro e w1 ⟨rfl, hB1⟩; obtain ⟨hc1, hf1⟩ := keep hB1; have hz1 := hB1.size; try simp at hz1
          go_wp2_with fail
          refine (HT _ (htab.below (by (repeat' (first | (with_reducible exact Below.refl _ _) | (with_reducible assumption) | (with_reducible refine Below.alloc ?_ ?_ _) | (with_reducible refine Below.drew ?_) | (with_reducible refine drewN_below ?_ _) | (with_reducible refine Below.setCell ?_ ?_ _) | (with_reducible refine below_call (by with_reducible assumption) ?_ ?_) | (first | (with_reducible exact Nat.le_refl _) | (with_reducible assumption) | omega | (simp; done) | (simp; omega))))))).mono ?_; rintro e w2 ⟨rfl, hB2⟩; obtain ⟨hc2, hf2⟩ := keep hB2; have hz2 := hB2.size; try simp at hz2
          go_wp2_with fail
          refine (HP _ (htab.below (by (repeat' (first | (with_reducible exact Below.refl _ _) | (with_reducible assumption) | (with_reducible refine Below.alloc ?_ ?_ _) | (with_reducible refine Below.drew ?_) | (with_reducible refine drewN_below ?_ _) | (with_reducible refine Below.setCell ?_ ?_ _) | (with_reducible refine below_call (by with_reducible assumption) ?_ ?_) | (first | (with_reducible exact Nat.le_refl _) | (with_reducible assumption) | omega | (simp; done) | (simp; omega))))))).mono ?_; rintro e w3 ⟨rfl, hB3⟩; obtain ⟨hc3, hf3⟩ := keep hB3; have hz3 := hB3.size; try simp at hz3
          go_wp2_with fail
          refine (lw_any _ _ _).mono ?_; rintro e w4 ⟨rfl, hB4⟩; obtain ⟨hc4, hf4⟩ := keep hB4; have hz4 := hB4.size; try simp at hz4
          go_wp2_with fail
          refine (HM _).mono ?_; rintro e w5 ⟨rfl, hB5⟩; obtain ⟨hc5, hf5⟩ := keep hB5; have hz5 := hB5.size; try simp at hz5
          go_wp2_with fail
          have hBB : Below w.heap.size w w5 := by (repeat' (first | (with_reducible exact Below.refl _ _) | (with_reducible assumption) | (with_reducible refine Below.alloc ?_ ?_ _) | (with_reducible refine Below.drew ?_) | (with_reducible refine drewN_below ?_ _) | (with_reducible refine Below.setCell ?_ ?_ _) | (with_reducible refine below_call (by with_reducible assumption) ?_ ?_) | (first | (with_reducible exact Nat.le_refl _) | (with_reducible assumption) | omega | (simp; done) | (simp; omega))))
          (refine wp_region_cells [(6, 7)] 6 (fun c => match c with | _ => ⟨15, 24, #[.int .u64 0, .int .u64 0], #[.int .u64 (hiOf S), .int .u64 (loOf S)]⟩) (by kernel_rfl) (by kernel_rfl) (by kernel_rfl) ⟨⟨_, rfl, rfl, rfl, ?_⟩, True.intro⟩ ?_; (· (intro a z; go_simp; first | done | (with_reducible rfl) | rfl)); (repeat (first | (refine stepC_val (v := ?_) (by rfl) (by rfl) ?_ ?_; rotate_left; (· (intro z hz; obtain ⟨hc, hf⟩ := keep hz; go_simp; first | done | (with_reducible rfl))); (try simp only [Act.put, List.setIfInBounds_toArray, List.set_cons_zero, List.set_cons_succ])) | (refine stepC_skip (by rfl) (by rfl) ?_; (try simp only [Act.put, List.setIfInBounds_toArray, List.set_cons_zero, List.set_cons_succ])) | (refine stepC_call (v := ?_) (f := ?_) (args := ?_) (by rfl) (by rfl) (by rfl) ?_ ?_ ?_; rotate_left; rotate_left; rotate_left; (· (intro z hz; (go_simp; first | done | (with_reducible rfl) | (constructor <;> with_reducible rfl)))); (· (intro z hz; first | (go_at_call 18; refine (lw_any _ _ _).mono ?_; rintro e w' ⟨rfl, hB⟩; refine ⟨?_, hB⟩; with_reducible rfl) | (go_at_call 16; refine (HA _).mono ?_; rintro e w' ⟨rfl, hB⟩; refine ⟨?_, hB⟩; with_reducible rfl))); (try simp only [Act.put, List.setIfInBounds_toArray, List.set_cons_zero, List.set_cons_succ])) | (refine stepC_store (t := 24) (cs0 := #[.int .u64 0, .int .u64 0]) (cs1 := #[.int .u64 (hiOf S), .int .u64 (loOf S)]) (by rfl) (by rfl) ⟨rfl, rfl, rfl⟩ (by rfl) (by rfl) (by rfl) ?_ ?_; (· (intro z hb1_7 hk; have k0 := hk.cell 0; have g0 := hk.frozen 0; (try simp at k0); have k1 := hk.cell 1; have g1 := hk.frozen 1; (try simp at k1); refine ⟨?_, ?_, ?_, ?_, ?_⟩; rotate_left; (· (go_simp; first | done | (with_reducible rfl) | (constructor <;> with_reducible rfl))); (· (intro W hW; exact ((hW.setCell hb1_7 _).setCell hb1_7 _))); (· exact ((hk.set_ 0 (.int .u64 (hiOf S))).set_ 1 (.int .u64 (loOf S)))); (· (intro b' t' cs' hne h; exact ((h.set_far hne 0 _).set_far hne 1 _))))); (try simp only [Act.put, List.setIfInBounds_toArray, List.set_cons_zero, List.set_cons_succ])))); (refine stepC_new (by rfl) (by rfl) (by rfl) ?_; intro b0_7 hb0_7; (try simp only [Act.put, List.setIfInBounds_toArray, List.set_cons_zero, List.set_cons_succ])); (repeat (first | (refine stepC_val (v := ?_) (by rfl) (by rfl) ?_ ?_; rotate_left; (· (intro z hz; obtain ⟨hc, hf⟩ := keep hz; go_simp; first | done | (with_reducible rfl))); (try simp only [Act.put, List.setIfInBounds_toArray, List.set_cons_zero, List.set_cons_succ])) | (refine stepC_skip (by rfl) (by rfl) ?_; (try simp only [Act.put, List.setIfInBounds_toArray, List.set_cons_zero, List.set_cons_succ])) | (refine stepC_call (v := ?_) (f := ?_) (args := ?_) (by rfl) (by rfl) (by rfl) ?_ ?_ ?_; rotate_left; rotate_left; rotate_left; (· (intro z hz; (go_simp; first | done | (with_reducible rfl) | (constructor <;> with_reducible rfl)))); (· (intro z hz; first | (go_at_call 18; refine (lw_any _ _ _).mono ?_; rintro e w' ⟨rfl, hB⟩; refine ⟨?_, hB⟩; with_reducible rfl) | (go_at_call 16; refine (HA _).mono ?_; rintro e w' ⟨rfl, hB⟩; refine ⟨?_, hB⟩; with_reducible rfl))); (try simp only [Act.put, List.setIfInBounds_toArray, List.set_cons_zero, List.set_cons_succ])) | (refine stepC_store (t := 24) (cs0 := #[.int .u64 0, .int .u64 0]) (cs1 := #[.int .u64 (hiOf S), .int .u64 (loOf S)]) (by rfl) (by rfl) ⟨rfl, rfl, rfl⟩ (by rfl) (by rfl) (by rfl) ?_ ?_; (· (intro z hb1_7 hk; have k0 := hk.cell 0; have g0 := hk.frozen 0; (try simp at k0); have k1 := hk.cell 1; have g1 := hk.frozen 1; (try simp at k1); refine ⟨?_, ?_, ?_, ?_, ?_⟩; rotate_left; (· (go_simp; first | done | (with_reducible rfl) | (constructor <;> with_reducible rfl))); (· (intro W hW; exact ((hW.setCell hb1_7 _).setCell hb1_7 _))); (· exact ((hk.set_ 0 (.int .u64 (hiOf S))).set_ 1 (.int .u64 (loOf S)))); (· (intro b' t' cs' hne h; exact ((h.set_far hne 0 _).set_far hne 1 _))))); (try simp only [Act.put, List.setIfInBounds_toArray, List.set_cons_zero, List.set_cons_succ])))); refine stepC_end ?_; intro w7 hI; obtain ⟨hB7, hE, hJ⟩ := hI; obtain ⟨hc7, hf7⟩ := bkeep hB7; have hz7 := hB7.size; (try simp at hz7); have hbk0_7 : Blk w7 b0_7 24 (#[.int .u64 (hiOf S), .int .u64 (loOf S)]) := (hE 0).2; have hbl0_7 := hbk0_7.lt; have hk0_0_7 := hbk0_7.cell 0; have hg0_0_7 := hbk0_7.frozen 0; (try simp at hk0_0_7); have hk0_1_7 := hbk0_7.cell 1; have hg0_1_7 := hbk0_7.frozen 1; (try simp at hk0_1_7); clear hE hJ; (try simp at hb0_7))
          have ho0_0_7 : w7.cell? ⟨w3.heap.size, 0, none⟩ = some (.int .u64 (hiOf S)) := (by refine Eq.trans (hc7 (w3.heap.size) 0 (by first | omega | (simp; omega) | (simp; done))) ?_; first | done | (simp [*, go_sem]; done) | go_simp); have ho0_1_7 : w7.cell? ⟨w3.heap.size, 1, none⟩ = some (.int .u64 (loOf S)) := (by refine Eq.trans (hc7 (w3.heap.size) 1 (by first | omega | (simp; omega) | (simp; done))) ?_; first | done | (simp [*, go_sem]; done) | go_simp); clear hc7 hf7
          go_wp2_with fail
          refine (awake1_any _ (htab.below (by (repeat' (first | (with_reducible exact Below.refl _ _) | (with_reducible assumption) | (with_reducible refine Below.alloc ?_ ?_ _) | (with_reducible refine Below.drew ?_) | (with_reducible refine drewN_below ?_ _) | (with_reducible refine Below.setCell ?_ ?_ _) | (with_reducible refine below_call (by with_reducible assumption) ?_ ?_) | (first | (with_reducible exact Nat.le_refl _) | (with_reducible assumption) | omega | (simp; done) | (simp; omega))))))).mono ?_; rintro e w8 ⟨rfl, hB8⟩; obtain ⟨hc8, hf8⟩ := keep hB8; have hz8 := hB8.size; try simp at hz8
          go_wp2
          go_ret
          exact ⟨rfl, by (repeat' (first | (with_reducible exact Below.refl _ _) | (with_reducible assumption) | (with_reducible refine Below.alloc ?_ ?_ _) | (with_reducible refine Below.drew ?_) | (with_reducible refine drewN_below ?_ _) | (with_reducible refine Below.setCell ?_ ?_ _) | (with_reducible refine below_call (by with_reducible assumption) ?_ ?_) | (first | (with_reducible exact Nat.le_refl _) | (with_reducible assumption) | omega | (simp; done) | (simp; omega))))⟩
      · have o0 : overB (num h l * 10 + 7) = true := by unfold overB; simp; omega
        rw [o0] at HA
        rw [decide_eq_false hb7] at hok
        rw [parse_bad hok] at HP
        generalize numeral (num h l) = z at *
        generalize num h l * 10 + 7 = S at *
        generalize hiOf (num h l * 10) = m1 at *
        generalize loOf (num h l * 10) = m0 at *
        clear hok hval h0 t0 o0 hN h1 h2 hh hN' hB10 hb hb7 hn7
        rcases hg0 with hg | ⟨hg, hg'⟩
        all_goals
          go_enter Tryd.func10, Tryd.ntmps10
          go_wp2_with fail
          refine (lw_any _ _ _).mono ?_; rintro e w1 ⟨rfl, hB1⟩; obtain ⟨hc1, hf1⟩ := keep hB1; have hz1 := hB1.size; try simp at hz1
          go_wp2_with fail
          refine (HT _ (htab.below (by (repeat' (first | (with_reducible exact Below.refl _ _) | (with_reducible assumption) | (with_reducible refine Below.alloc ?_ ?_ _) | (with_reducible refine Below.drew ?_) | (with_reducible refine drewN_below ?_ _) | (with_reducible refine Below.setCell ?_ ?_ _) | (with_reducible refine below_call (by with_reducible assumption) ?_ ?_) | (first | (with_reducible exact Nat.le_refl _) | (with_reducible assumption) | omega | (simp; done) | (simp; omega))))))).mono ?_; rintro e w2 ⟨rfl, hB2⟩; obtain ⟨hc2, hf2⟩ := keep hB2; have hz2 := hB2.size; try simp at hz2
          go_wp2_with fail
          refine (HP _ (htab.below (by (repeat' (first | (with_reducible exact Below.refl _ _) | (with_reducible assumption) | (with_reducible refine Below.alloc ?_ ?_ _) | (with_reducible refine Below.drew ?_) | (with_reducible refine drewN_below ?_ _) | (with_reducible refine Below.setCell ?_ ?_ _) | (with_reducible refine below_call (by with_reducible assumption) ?_ ?_) | (first | (with_reducible exact Nat.le_refl _) | (with_reducible assumption) | omega | (simp; done) | (simp; omega))))))).mono ?_; rintro e w3 ⟨rfl, hB3⟩; obtain ⟨hc3, hf3⟩ := keep hB3; have hz3 := hB3.size; try simp at hz3
          go_wp2_with fail
          refine (lw_any _ _ _).mono ?_; rintro e w4 ⟨rfl, hB4⟩; obtain ⟨hc4, hf4⟩ := keep hB4; have hz4 := hB4.size; try simp at hz4
          go_wp2_with fail
          refine (HM _).mono ?_; rintro e w5 ⟨rfl, hB5⟩; obtain ⟨hc5, hf5⟩ := keep hB5; have hz5 := hB5.size; try simp at hz5
          go_wp2_with fail
          have hBB : Below w.heap.size w w5 := by (repeat' (first | (with_reducible exact Below.refl _ _) | (with_reducible assumption) | (with_reducible refine Below.alloc ?_ ?_ _) | (with_reducible refine Below.drew ?_) | (with_reducible refine drewN_below ?_ _) | (with_reducible refine Below.setCell ?_ ?_ _) | (with_reducible refine below_call (by with_reducible assumption) ?_ ?_) | (first | (with_reducible exact Nat.le_refl _) | (with_reducible assumption) | omega | (simp; done) | (simp; omega))))
          (refine wp_region_cells [(6, 7)] 6 (fun c => match c with | _ => ⟨15, 24, #[.int .u64 0, .int .u64 0], #[.int .u64 (hiOf S), .int .u64 (loOf S)]⟩) (by kernel_rfl) (by kernel_rfl) (by kernel_rfl) ⟨⟨_, rfl, rfl, rfl, ?_⟩, True.intro⟩ ?_; (· (intro a z; go_simp; first | done | (with_reducible rfl) | rfl)); (repeat (first | (refine stepC_val (v := ?_) (by rfl) (by rfl) ?_ ?_; rotate_left; (· (intro z hz; obtain ⟨hc, hf⟩ := keep hz; go_simp; first | done | (with_reducible rfl))); (try simp only [Act.put, List.setIfInBounds_toArray, List.set_cons_zero, List.set_cons_succ])) | (refine stepC_skip (by rfl) (by rfl) ?_; (try simp only [Act.put, List.setIfInBounds_toArray, List.set_cons_zero, List.set_cons_succ])) | (refine stepC_call (v := ?_) (f := ?_) (args := ?_) (by rfl) (by rfl) (by rfl) ?_ ?_ ?_; rotate_left; rotate_left; rotate_left; (· (intro z hz; (go_simp; first | done | (with_reducible rfl) | (constructor <;> with_reducible rfl)))); (· (intro z hz; first | (go_at_call 18; refine (lw_any _ _ _).mono ?_; rintro e w' ⟨rfl, hB⟩; refine ⟨?_, hB⟩; with_reducible rfl) | (go_at_call 16; refine (HA _).mono ?_; rintro e w' ⟨rfl, hB⟩; refine ⟨?_, hB⟩; with_reducible rfl))); (try simp only [Act.put, List.setIfInBounds_toArray, List.set_cons_zero, List.set_cons_succ])) | (refine stepC_store (t := 24) (cs0 := #[.int .u64 0, .int .u64 0]) (cs1 := #[.int .u64 (hiOf S), .int .u64 (loOf S)]) (by rfl) (by rfl) ⟨rfl, rfl, rfl⟩ (by rfl) (by rfl) (by rfl) ?_ ?_; (· (intro z hb1_7 hk; have k0 := hk.cell 0; have g0 := hk.frozen 0; (try simp at k0); have k1 := hk.cell 1; have g1 := hk.frozen 1; (try simp at k1); refine ⟨?_, ?_, ?_, ?_, ?_⟩; rotate_left; (· (go_simp; first | done | (with_reducible rfl) | (constructor <;> with_reducible rfl))); (· (intro W hW; exact ((hW.setCell hb1_7 _).setCell hb1_7 _))); (· exact ((hk.set_ 0 (.int .u64 (hiOf S))).set_ 1 (.int .u64 (loOf S)))); (· (intro b' t' cs' hne h; exact ((h.set_far hne 0 _).set_far hne 1 _))))); (try simp only [Act.put, List.setIfInBounds_toArray, List.set_cons_zero, List.set_cons_succ])))); (refine stepC_new (by rfl) (by rfl) (by rfl) ?_; intro b0_7 hb0_7; (try simp only [Act.put, List.setIfInBounds_toArray, List.set_cons_zero, List.set_cons_succ])); (repeat (first | (refine stepC_val (v := ?_) (by rfl) (by rfl) ?_ ?_; rotate_left; (· (intro z hz; obtain ⟨hc, hf⟩ := keep hz; go_simp; first | done | (with_reducible rfl))); (try simp only [Act.put, List.setIfInBounds_toArray, List.set_cons_zero, List.set_cons_succ])) | (refine stepC_skip (by rfl) (by rfl) ?_; (try simp only [Act.put, List.setIfInBounds_toArray, List.set_cons_zero, List.set_cons_succ])) | (refine stepC_call (v := ?_) (f := ?_) (args := ?_) (by rfl) (by rfl) (by rfl) ?_ ?_ ?_; rotate_left; rotate_left; rotate_left; (· (intro z hz; (go_simp; first | done | (with_reducible rfl) | (constructor <;> with_reducible rfl)))); (· (intro z hz; first | (go_at_call 18; refine (lw_any _ _ _).mono ?_; rintro e w' ⟨rfl, hB⟩; refine ⟨?_, hB⟩; with_reducible rfl) | (go_at_call 16; refine (HA _).mono ?_; rintro e w' ⟨rfl, hB⟩; refine ⟨?_, hB⟩; with_reducible rfl))); (try simp only [Act.put, List.setIfInBounds_toArray, List.set_cons_zero, List.set_cons_succ])) | (refine stepC_store (t := 24) (cs0 := #[.int .u64 0, .int .u64 0]) (cs1 := #[.int .u64 (hiOf S), .int .u64 (loOf S)]) (by rfl) (by rfl) ⟨rfl, rfl, rfl⟩ (by rfl) (by rfl) (by rfl) ?_ ?_; (· (intro z hb1_7 hk; have k0 := hk.cell 0; have g0 := hk.frozen 0; (try simp at k0); have k1 := hk.cell 1; have g1 := hk.frozen 1; (try simp at k1); refine ⟨?_, ?_, ?_, ?_, ?_⟩; rotate_left; (· (go_simp; first | done | (with_reducible rfl) | (constructor <;> with_reducible rfl))); (· (intro W hW; exact ((hW.setCell hb1_7 _).setCell hb1_7 _))); (· exact ((hk.set_ 0 (.int .u64 (hiOf S))).set_ 1 (.int .u64 (loOf S)))); (· (intro b' t' cs' hne h; exact ((h.set_far hne 0 _).set_far hne 1 _))))); (try simp only [Act.put, List.setIfInBounds_toArray, List.set_cons_zero, List.set_cons_succ])))); refine stepC_end ?_; intro w7 hI; obtain ⟨hB7, hE, hJ⟩ := hI; obtain ⟨hc7, hf7⟩ := bkeep hB7; have hz7 := hB7.size; (try simp at hz7); have hbk0_7 : Blk w7 b0_7 24 (#[.int .u64 (hiOf S), .int .u64 (loOf S)]) := (hE 0).2; have hbl0_7 := hbk0_7.lt; have hk0_0_7 := hbk0_7.cell 0; have hg0_0_7 := hbk0_7.frozen 0; (try simp at hk0_0_7); have hk0_1_7 := hbk0_7.cell 1; have hg0_1_7 := hbk0_7.frozen 1; (try simp at hk0_1_7); clear hE hJ; (try simp at hb0_7))
          clear hc7 hf7
          go_wp2_with fail
          refine (awake1_any _ (htab.below (by (repeat' (first | (with_reducible exact Below.refl _ _) | (with_reducible assumption) | (with_reducible refine Below.alloc ?_ ?_ _) | (with_reducible refine Below.drew ?_) | (with_reducible refine drewN_below ?_ _) | (with_reducible refine Below.setCell ?_ ?_ _) | (with_reducible refine below_call (by with_reducible assumption) ?_ ?_) | (first | (with_reducible exact Nat.le_refl _) | (with_reducible assumption) | omega | (simp; done) | (simp; omega))))))).mono ?_; rintro e w8 ⟨rfl, hB8⟩; obtain ⟨hc8, hf8⟩ := keep hB8; have hz8 := hB8.size; try simp at hz8
          go_wp2
          go_ret
          exact ⟨rfl, by (repeat' (first | (with_reducible exact Below.refl _ _) | (with_reducible assumption) | (with_reducible refine Below.alloc ?_ ?_ _) | (with_reducible refine Below.drew ?_) | (with_reducible refine drewN_below ?_ _) | (with_reducible refine Below.setCell ?_ ?_ _) | (with_reducible refine below_call (by with_reducible assumption) ?_ ?_) | (first | (with_reducible exact Nat.le_refl _) | (with_reducible assumption) | omega | (simp; done) | (simp; omega))))⟩
    · have t0 : 0 < topOf (num h l * 10) := by unfold topOf; omega
      rw [decide_eq_false (by omega : ¬ num h l * 10 + 7 < 340282366920938463463374607431768211456)] at hok
      rw [parse_bad hok] at HP
      generalize numeral (num h l) = z at *
      generalize topOf (num h l * 10) = top at *
      generalize num (hiOf (num h l * 10)) (loOf (num h l * 10)) + 7 = S at *
      generalize hiOf (num h l * 10) = m1 at *
      generalize loOf (num h l * 10) = m0 at *
      clear hok hval h0 hN h1 h2 hh hN' hb hn7
      rcases hg0 with hg | ⟨hg, hg'⟩
      all_goals
        go_enter Tryd.func10, Tryd.ntmps10
        go_wp2_with fail
        refine (lw_any _ _ _).mono ?_; rintro e w1 ⟨rfl, hB1⟩; obtain ⟨hc1, hf1⟩ := keep hB1; have hz1 := hB1.size; try simp at hz1
        go_wp2_with fail
        refine (HT _ (htab.below (by (repeat' (first | (with_reducible exact Below.refl _ _) | (with_reducible assumption) | (with_reducible refine Below.alloc ?_ ?_ _) | (with_reducible refine Below.drew ?_) | (with_reducible refine drewN_below ?_ _) | (with_reducible refine Below.setCell ?_ ?_ _) | (with_reducible refine below_call (by with_reducible assumption) ?_ ?_) | (first | (with_reducible exact Nat.le_refl _) | (with_reducible assumption) | omega | (simp; done) | (simp; omega))))))).mono ?_; rintro e w2 ⟨rfl, hB2⟩; obtain ⟨hc2, hf2⟩ := keep hB2; have hz2 := hB2.size; try simp at hz2
        go_wp2_with fail
        refine (HP _ (htab.below (by (repeat' (first | (with_reducible exact Below.refl _ _) | (with_reducible assumption) | (with_reducible refine Below.alloc ?_ ?_ _) | (with_reducible refine Below.drew ?_) | (with_reducible refine drewN_below ?_ _) | (with_reducible refine Below.setCell ?_ ?_ _) | (with_reducible refine below_call (by with_reducible assumption) ?_ ?_) | (first | (with_reducible exact Nat.le_refl _) | (with_reducible assumption) | omega | (simp; done) | (simp; omega))))))).mono ?_; rintro e w3 ⟨rfl, hB3⟩; obtain ⟨hc3, hf3⟩ := keep hB3; have hz3 := hB3.size; try simp at hz3
        go_wp2_with fail
        refine (lw_any _ _ _).mono ?_; rintro e w4 ⟨rfl, hB4⟩; obtain ⟨hc4, hf4⟩ := keep hB4; have hz4 := hB4.size; try simp at hz4
        go_wp2_with fail
        refine (HM _).mono ?_; rintro e w5 ⟨rfl, hB5⟩; obtain ⟨hc5, hf5⟩ := keep hB5; have hz5 := hB5.size; try simp at hz5
        go_wp2_with fail
        have hBB : Below w.heap.size w w5 := by (repeat' (first | (with_reducible exact Below.refl _ _) | (with_reducible assumption) | (with_reducible refine Below.alloc ?_ ?_ _) | (with_reducible refine Below.drew ?_) | (with_reducible refine drewN_below ?_ _) | (with_reducible refine Below.setCell ?_ ?_ _) | (with_reducible refine below_call (by with_reducible assumption) ?_ ?_) | (first | (with_reducible exact Nat.le_refl _) | (with_reducible assumption) | omega | (simp; done) | (simp; omega))))
        (refine wp_region_cells [(6, 7)] 6 (fun c => match c with | _ => ⟨15, 24, #[.int .u64 0, .int .u64 0], #[.int .u64 (hiOf S), .int .u64 (loOf S)]⟩) (by kernel_rfl) (by kernel_rfl) (by kernel_rfl) ⟨⟨_, rfl, rfl, rfl, ?_⟩, True.intro⟩ ?_; (· (intro a z; go_simp; first | done | (with_reducible rfl) | rfl)); (repeat (first | (refine stepC_val (v := ?_) (by rfl) (by rfl) ?_ ?_; rotate_left; (· (intro z hz; obtain ⟨hc, hf⟩ := keep hz; go_simp; first | done | (with_reducible rfl))); (try simp only [Act.put, List.setIfInBounds_toArray, List.set_cons_zero, List.set_cons_succ])) | (refine stepC_skip (by rfl) (by rfl) ?_; (try simp only [Act.put, List.setIfInBounds_toArray, List.set_cons_zero, List.set_cons_succ])) | (refine stepC_call (v := ?_) (f := ?_) (args := ?_) (by rfl) (by rfl) (by rfl) ?_ ?_ ?_; rotate_left; rotate_left; rotate_left; (· (intro z hz; (go_simp; first | done | (with_reducible rfl) | (constructor <;> with_reducible rfl)))); (· (intro z hz; first | (go_at_call 18; refine (lw_any _ _ _).mono ?_; rintro e w' ⟨rfl, hB⟩; refine ⟨?_, hB⟩; with_reducible rfl) | (go_at_call 16; refine (HA _).mono ?_; rintro e w' ⟨rfl, hB⟩; refine ⟨?_, hB⟩; with_reducible rfl))); (try simp only [Act.put, List.setIfInBounds_toArray, List.set_cons_zero, List.set_cons_succ])) | (refine stepC_store (t := 24) (cs0 := #[.int .u64 0, .int .u64 0]) (cs1 := #[.int .u64 (hiOf S), .int .u64 (loOf S)]) (by rfl) (by rfl) ⟨rfl, rfl, rfl⟩ (by rfl) (by rfl) (by rfl) ?_ ?_; (· (intro z hb1_7 hk; have k0 := hk.cell 0; have g0 := hk.frozen 0; (try simp at k0); have k1 := hk.cell 1; have g1 := hk.frozen 1; (try simp at k1); refine ⟨?_, ?_, ?_, ?_, ?_⟩; rotate_left; (· (go_simp; first | done | (with_reducible rfl) | (constructor <;> with_reducible rfl))); (· (intro W hW; exact ((hW.setCell hb1_7 _).setCell hb1_7 _))); (· exact ((hk.set_ 0 (.int .u64 (hiOf S))).set_ 1 (.int .u64 (loOf S)))); (· (intro b' t' cs' hne h; exact ((h.set_far hne 0 _).set_far hne 1 _))))); (try simp only [Act.put, List.setIfInBounds_toArray, List.set_cons_zero, List.set_cons_succ])))); (refine stepC_new (by rfl) (by rfl) (by rfl) ?_; intro b0_7 hb0_7; (try simp only [Act.put, List.setIfInBounds_toArray, List.set_cons_zero, List.set_cons_succ])); (repeat (first | (refine stepC_val (v := ?_) (by rfl) (by rfl) ?_ ?_; rotate_left; (· (intro z hz; obtain ⟨hc, hf⟩ := keep hz; go_simp; first | done | (with_reducible rfl))); (try simp only [Act.put, List.setIfInBounds_toArray, List.set_cons_zero, List.set_cons_succ])) | (refine stepC_skip (by rfl) (by rfl) ?_; (try simp only [Act.put, List.setIfInBounds_toArray, List.set_cons_zero, List.set_cons_succ])) | (refine stepC_call (v := ?_) (f := ?_) (args := ?_) (by rfl) (by rfl) (by rfl) ?_ ?_ ?_; rotate_left; rotate_left; rotate_left; (· (intro z hz; (go_simp; first | done | (with_reducible rfl) | (constructor <;> with_reducible rfl)))); (· (intro z hz; first | (go_at_call 18; refine (lw_any _ _ _).mono ?_; rintro e w' ⟨rfl, hB⟩; refine ⟨?_, hB⟩; with_reducible rfl) | (go_at_call 16; refine (HA _).mono ?_; rintro e w' ⟨rfl, hB⟩; refine ⟨?_, hB⟩; with_reducible rfl))); (try simp only [Act.put, List.setIfInBounds_toArray, List.set_cons_zero, List.set_cons_succ])) | (refine stepC_store (t := 24) (cs0 := #[.int .u64 0, .int .u64 0]) (cs1 := #[.int .u64 (hiOf S), .int .u64 (loOf S)]) (by rfl) (by rfl) ⟨rfl, rfl, rfl⟩ (by rfl) (by rfl) (by rfl) ?_ ?_; (· (intro z hb1_7 hk; have k0 := hk.cell 0; have g0 := hk.frozen 0; (try simp at k0); have k1 := hk.cell 1; have g1 := hk.frozen 1; (try simp at k1); refine ⟨?_, ?_, ?_, ?_, ?_⟩; rotate_left; (· (go_simp; first | done | (with_reducible rfl) | (constructor <;> with_reducible rfl))); (· (intro W hW; exact ((hW.setCell hb1_7 _).setCell hb1_7 _))); (· exact ((hk.set_ 0 (.int .u64 (hiOf S))).set_ 1 (.int .u64 (loOf S)))); (· (intro b' t' cs' hne h; exact ((h.set_far hne 0 _).set_far hne 1 _))))); (try simp only [Act.put, List.setIfInBounds_toArray, List.set_cons_zero, List.set_cons_succ])))); refine stepC_end ?_; intro w7 hI; obtain ⟨hB7, hE, hJ⟩ := hI; obtain ⟨hc7, hf7⟩ := bkeep hB7; have hz7 := hB7.size; (try simp at hz7); have hbk0_7 : Blk w7 b0_7 24 (#[.int .u64 (hiOf S), .int .u64 (loOf S)]) := (hE 0).2; have hbl0_7 := hbk0_7.lt; have hk0_0_7 := hbk0_7.cell 0; have hg0_0_7 := hbk0_7.frozen 0; (try simp at hk0_0_7); have hk0_1_7 := hbk0_7.cell 1; have hg0_1_7 := hbk0_7.frozen 1; (try simp at hk0_1_7); clear hE hJ; (try simp at hb0_7))
        clear hc7 hf7
        go_wp2_with fail
        refine (awake1_any _ (htab.below (by (repeat' (first | (with_reducible exact Below.refl _ _) | (with_reducible assumption) | (with_reducible refine Below.alloc ?_ ?_ _) | (with_reducible refine Below.drew ?_) | (with_reducible refine drewN_below ?_ _) | (with_reducible refine Below.setCell ?_ ?_ _) | (with_reducible refine below_call (by with_reducible assumption) ?_ ?_) | (first | (with_reducible exact Nat.le_refl _) | (with_reducible assumption) | omega | (simp; done) | (simp; omega))))))).mono ?_; rintro e w8 ⟨rfl, hB8⟩; obtain ⟨hc8, hf8⟩ := keep hB8; have hz8 := hB8.size; try simp at hz8
        go_wp2
        go_ret
        exact ⟨rfl, by (repeat' (first | (with_reducible exact Below.refl _ _) | (with_reducible assumption) | (with_reducible refine Below.alloc ?_ ?_ _) | (with_reducible refine Below.drew ?_) | (with_reducible refine drewN_below ?_ _) | (with_reducible refine Below.setCell ?_ ?_ _) | (with_reducible refine below_call (by with_reducible assumption) ?_ ?_) | (first | (with_reducible exact Nat.le_refl _) | (with_reducible assumption) | omega | (simp; done) | (simp; omega))))⟩

theorem digits_walk (h l how : Int) (h1 : Word h) (h2 : Word l) (w : World) (htab : Tab w) :
    Calls Tryd.prog 10 #[.int .u64 h, .int .u64 l, .int .i64 how] w fun e w' => e = .returned (.bool true) ∧ Below w.heap.size w w' := by
  by_cases hh : 0 ≤ how ∧ how < 6
  · exact digits_bad h l how h1 h2 hh.1 hh.2 w htab
  · exact digits_good h l how h1 h2 (by omega) w htab

set_option maxRecDepth 100000 in
theorem digits_lifted (os : Os) (started : os.Started) (H : Type) (enc : TypeId × Value → H) :
    ReturnsInHanded {} Tryd.checked os 10 .any (fun w args => (Rows.wideDigitsSpec.pre enc Tryd.prog Tryd.f10 [] false w args ∧ laidMet Tryd.prog laidL w) ∧ sizedMet enc Tryd.prog Tryd.f10 (OpenSpec.ofChange Rows.wideDigitsSpec) false w args) (Rows.wideDigitsSpec.post enc Tryd.prog Tryd.f10 false true false false) := by
  refine returnsInHanded_of_change_and (C := Tryd.checked) (X := fun w _ => laidMet Tryd.prog laidL w) (fun _ _ _ hh h => laid_heap hh h) own started (by kernel_rfl) Tryd.func10
    (ChangeSpec.witness_at (enc := enc) (C := Tryd.checked) (os := os) (X := fun w _ => laidMet Tryd.prog laidL w) false (laidWorld os) #[.int .u64 0, .int .u64 0, .int .i64 0] 8 rfl (by kernel_rfl) (by kernel_rfl) (by kernel_rfl) (by kernel_rfl) (by kernel_rfl) (laidWorld_met os _)) ?_
  intro W base args ds gs before hval0 hW _ _ hL _
  have hval : ∀ (j : Nat) t v, Tryd.f10.params[j]? = some t → args[j]? = some v → Value.okWide Tryd.prog W .any base t v := hval0
  have hT := tab_of_laid hL
  have hW' := hW
  obtain ⟨p, q, hA0, hV, rfl, _, _⟩ := hW
  have hA : DataW.TrodAll enc Tryd.prog W 0 (fun _ => true) true Tryd.f10.params.toList args.toList ds p := hA0
  rw [Tryd.params10] at hA hval
  obtain ⟨v0, vs0, d0, ds0, p0, q0, hargs, rfl, rfl, h0, r0⟩ := trodAll_cons hA
  obtain ⟨v1, vs1, d1, ds1, p1, q1, rfl, rfl, rfl, h1, r1⟩ := trodAll_cons r0
  obtain ⟨v2, vs2, d2, ds2, p2, q2, rfl, rfl, rfl, h2, r2⟩ := trodAll_cons r1
  obtain ⟨rfl, rfl, rfl⟩ := trodAll_nil r2
  obtain rfl : args = #[v0, v1, v2] := by cases args; simp_all
  obtain ⟨rfl, rfl⟩ := trodVars_none hV
  obtain ⟨x0a, rfl, rfl, rfl, wx0a⟩ := open_int Tryd.underlying22 (hval 0 22 v0 rfl rfl) h0
  obtain ⟨x1a, rfl, rfl, rfl, wx1a⟩ := open_int Tryd.underlying22 (hval 1 22 v1 rfl rfl) h1
  obtain ⟨x2a, rfl, rfl, rfl, wx2a⟩ := open_int Tryd.underlying3 (hval 2 3 v2 rfl rfl) h2
  refine (digits_walk _ _ _ (word_of_wf wx0a) (word_of_wf wx1a) W hT).mono fun e W' ⟨he, hb⟩ => ?_
  subst he
  exact ⟨_, rfl, post_true laidOut (by kernel_rfl) rfl hW' hb (trodAll_mk1 (shut_bool Tryd.underlying4 _)) rfl rfl⟩

theorem digits_holds : Rows.WideDigitsSaid :=
  OpenClaim.holds_of_wide 10 Tryd.f10 rfl rfl rfl rfl rfl rfl rfl ⟨rfl, rfl, rfl, rfl, rfl⟩ rfl rfl rfl rfl rfl (by kernel_rfl) Tryd.func10 (by kernel_rfl)
    (of_decide_eq_true (by kernel_rfl)) (by unfold Func.isWrapper; rw [if_neg (of_decide_eq_false (by kernel_rfl))]; exact ⟨rfl, rfl⟩)
    (fun os started H enc _ => digits_lifted os started H enc)

theorem digits_card : Rows.WideDigitsCardSaid :=
  Claim7.holds_tied_plain_at .later [] [.data, .data, .data] true (true, "4a14bf82196382be670ee67696ed6504ac63f053d7b56463f2dc3046ea5a8924") false
    digits_holds (fun _ h => by cases h) (by kernel_rfl) (fun _ h => by cases h) wideDigits_row_tie rfl ⟨rfl, rfl⟩ (by kernel_rfl) rfl
    (fun f fn hf hfn => by
      obtain rfl : f = 10 := Option.some.inj ((show Tryd.prog.funcNamed "pergola/pergolalaw1.WideDigits" = some 10 by kernel_rfl).symm.trans hf) |>.symm
      obtain rfl : fn = Tryd.f10 := (Option.some.inj (Tryd.func10.symm.trans hfn)).symm
      refine ⟨by kernel_rfl, fun j t ht => ?_⟩
      have hall : (Tryd.f10.params.toList.all fun t => !(Tryd.prog.wantsStandIn t)) = true := by kernel_rfl
      have := List.all_eq_true.1 hall t (by simpa using Array.mem_of_getElem? ht)
      exact (by simpa using this : Tryd.prog.wantsStandIn t = false))
    (by kernel_rfl)
#print axioms digits_card
end Go.Proofs.YtpmnghobcciiaaaDoor
