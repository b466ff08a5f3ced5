/- pergolaref1: TextDist, Less. -/
import Derived.Test.YthamagnlpndnoaaDoorRText
import Derived.Test.YthamagnlpndnoaaDoorRatioT
namespace Go.Proofs.YthamagnlpndnoaaDoor
open Go.RowKit

theorem rtextN_any (h l : Int) (h1 : Word h) (h2 : Word l) (w : World) :
    Calls Tryd.prog 41 #[.agg #[.int .u64 h, .int .u64 l]] w fun e w' => e = .returned (.string (numeral (num h l))) ∧ Below w.heap.size w w' := rtextU_any h l h1 h2 w

set_option maxHeartbeats 4000000 in
theorem rtextD_any (h l d : Int) (h1 : Word h) (h2 : Word l) (h3 : Word d) (w : World) :
    Calls Tryd.prog 23 #[.agg #[.int .u64 h, .int .u64 l, .int .u64 d]] w fun e w' => e = .returned (.string (distText (num h l) d)) ∧ Below w.heap.size w w' := by
  by_cases hd0 : d = 0
  · subst hd0
    have e : distText (num h l) 0 = ⟨#[110, 111, 110, 101]⟩ := by unfold distText; rw [if_pos rfl]
    rw [e]
    go_enter Tryd.func23, Tryd.ntmps23
    go_wp2
    go_ret
    exact ⟨rfl, by (repeat' (first | (with_reducible exact Below.refl _ _) | (with_reducible assumption) | (with_reducible refine Below.alloc ?_ ?_ _) | (with_reducible refine Below.drew ?_) | (with_reducible refine drewN_below ?_ _) | (with_reducible refine Below.setCell ?_ ?_ _) | (with_reducible refine below_call (by with_reducible assumption) ?_ ?_) | (first | (with_reducible exact Nat.le_refl _) | (with_reducible assumption) | omega | (simp; done) | (simp; omega))))⟩
  · have h4 : 0 < d := by unfold Word at h3; omega
    obtain ⟨hq, he⟩ := low_words h1 h2 h3 h4
    have HL := fun w => lowest_any h l d h1 h2 h3 h4 w
    have HT := fun w => rtextN_any (hiOf (num h l / lowG (num h l) d)) (loOf (num h l / lowG (num h l) d)) (hiOf_word _) (loOf_word _) w
    rw [num_hl hq] at HT
    have HF := fun w => rtextN_any 0 (d / lowG (num h l) d) (by unfold Word; omega) he w
    rw [show num 0 (d / lowG (num h l) d) = d / lowG (num h l) d from by unfold num; omega] at HF
    have z1 := numeral_le hq
    have z2 := numeral_le (n := d / lowG (num h l) d) (by unfold Word at he; unfold Big; omega)
    have hdb : (d == 0) = false := beq_eq_false_iff_ne.2 hd0
    unfold distText
    rw [if_neg hd0]
    generalize hiOf (num h l / lowG (num h l) d) = q1 at *
    generalize loOf (num h l / lowG (num h l) d) = q0 at *
    generalize numeral (num h l / lowG (num h l) d) = s at *
    generalize numeral (d / lowG (num h l) d) = t at *
    generalize d / lowG (num h l) d = e at *
    by_cases h1' : e = 1
    · rw [if_pos h1']
      have hb : (e != 1) = false := by rw [h1']; rfl
      clear h1' hq he HF z1 z2 h1 h2 h3 h4 hd0
      go_enter Tryd.func23, Tryd.ntmps23
      go_wp2_with fail
      (refine wp_region_cells [(5, 6)] 5 (fun c => match c with | _ => ⟨3, 24, #[.int .u64 0, .int .u64 0, .int .u64 0], #[.int .u64 q1, .int .u64 q0, .int .u64 e]⟩) (by kernel_rfl) (by kernel_rfl) (by kernel_rfl) ⟨⟨_, rfl, rfl, rfl, ?_⟩, True.intro⟩ ?_; (· (intro a z; go_simp; first | done | (with_reducible rfl) | rfl)); (repeat (first | (refine stepC_val (v := ?_) (by rfl) (by rfl) ?_ ?_; rotate_left; (· (intro z hz; obtain ⟨hc, hf⟩ := keep hz; go_simp; first | done | (with_reducible rfl))); (try simp only [Act.put, List.setIfInBounds_toArray, List.set_cons_zero, List.set_cons_succ])) | (refine stepC_skip (by rfl) (by rfl) ?_; (try simp only [Act.put, List.setIfInBounds_toArray, List.set_cons_zero, List.set_cons_succ])) | (refine stepC_call (v := ?_) (f := ?_) (args := ?_) (by rfl) (by rfl) (by rfl) ?_ ?_ ?_; rotate_left; rotate_left; rotate_left; (· (intro z hz; (go_simp; first | done | (with_reducible rfl) | (constructor <;> with_reducible rfl)))); (· (intro z hz; first | (go_at_call 40; refine (num_any _ _ _ _).mono ?_; rintro e w' ⟨rfl, hB⟩; refine ⟨?_, hB⟩; with_reducible rfl) | (go_at_call 15; refine (HL _).mono ?_; rintro e w' ⟨rfl, hB⟩; refine ⟨?_, hB⟩; with_reducible rfl))); (try simp only [Act.put, List.setIfInBounds_toArray, List.set_cons_zero, List.set_cons_succ])) | (refine stepC_store (t := 24) (cs0 := #[.int .u64 0, .int .u64 0, .int .u64 0]) (cs1 := #[.int .u64 q1, .int .u64 q0, .int .u64 e]) (by rfl) (by rfl) ⟨rfl, rfl, rfl⟩ (by rfl) (by rfl) (by rfl) ?_ ?_; (· (intro z hb1_4 hk; have k0 := hk.cell 0; have g0 := hk.frozen 0; (try simp at k0); have k1 := hk.cell 1; have g1 := hk.frozen 1; (try simp at k1); have k2 := hk.cell 2; have g2 := hk.frozen 2; (try simp at k2); refine ⟨?_, ?_, ?_, ?_, ?_⟩; rotate_left; (· (go_simp; first | done | (with_reducible rfl) | (constructor <;> with_reducible rfl))); (· (intro W hW; exact (((hW.setCell hb1_4 _).setCell hb1_4 _).setCell hb1_4 _))); (· exact (((hk.set_ 0 (.int .u64 q1)).set_ 1 (.int .u64 q0)).set_ 2 (.int .u64 e))); (· (intro b' t' cs' hne h; exact (((h.set_far hne 0 _).set_far hne 1 _).set_far hne 2 _))))); (try simp only [Act.put, List.setIfInBounds_toArray, List.set_cons_zero, List.set_cons_succ])))); (refine stepC_new (by rfl) (by rfl) (by rfl) ?_; intro b0_4 hb0_4; (try simp only [Act.put, List.setIfInBounds_toArray, List.set_cons_zero, List.set_cons_succ])); (repeat (first | (refine stepC_val (v := ?_) (by rfl) (by rfl) ?_ ?_; rotate_left; (· (intro z hz; obtain ⟨hc, hf⟩ := keep hz; go_simp; first | done | (with_reducible rfl))); (try simp only [Act.put, List.setIfInBounds_toArray, List.set_cons_zero, List.set_cons_succ])) | (refine stepC_skip (by rfl) (by rfl) ?_; (try simp only [Act.put, List.setIfInBounds_toArray, List.set_cons_zero, List.set_cons_succ])) | (refine stepC_call (v := ?_) (f := ?_) (args := ?_) (by rfl) (by rfl) (by rfl) ?_ ?_ ?_; rotate_left; rotate_left; rotate_left; (· (intro z hz; (go_simp; first | done | (with_reducible rfl) | (constructor <;> with_reducible rfl)))); (· (intro z hz; first | (go_at_call 40; refine (num_any _ _ _ _).mono ?_; rintro e w' ⟨rfl, hB⟩; refine ⟨?_, hB⟩; with_reducible rfl) | (go_at_call 15; refine (HL _).mono ?_; rintro e w' ⟨rfl, hB⟩; refine ⟨?_, hB⟩; with_reducible rfl))); (try simp only [Act.put, List.setIfInBounds_toArray, List.set_cons_zero, List.set_cons_succ])) | (refine stepC_store (t := 24) (cs0 := #[.int .u64 0, .int .u64 0, .int .u64 0]) (cs1 := #[.int .u64 q1, .int .u64 q0, .int .u64 e]) (by rfl) (by rfl) ⟨rfl, rfl, rfl⟩ (by rfl) (by rfl) (by rfl) ?_ ?_; (· (intro z hb1_4 hk; have k0 := hk.cell 0; have g0 := hk.frozen 0; (try simp at k0); have k1 := hk.cell 1; have g1 := hk.frozen 1; (try simp at k1); have k2 := hk.cell 2; have g2 := hk.frozen 2; (try simp at k2); refine ⟨?_, ?_, ?_, ?_, ?_⟩; rotate_left; (· (go_simp; first | done | (with_reducible rfl) | (constructor <;> with_reducible rfl))); (· (intro W hW; exact (((hW.setCell hb1_4 _).setCell hb1_4 _).setCell hb1_4 _))); (· exact (((hk.set_ 0 (.int .u64 q1)).set_ 1 (.int .u64 q0)).set_ 2 (.int .u64 e))); (· (intro b' t' cs' hne h; exact (((h.set_far hne 0 _).set_far hne 1 _).set_far hne 2 _))))); (try simp only [Act.put, List.setIfInBounds_toArray, List.set_cons_zero, List.set_cons_succ])))); refine stepC_end ?_; intro w4 hI; obtain ⟨hB4, hE, hJ⟩ := hI; obtain ⟨hc4, hf4⟩ := bkeep hB4; have hz4 := hB4.size; (try simp at hz4); have hbk0_4 : Blk w4 b0_4 24 (#[.int .u64 q1, .int .u64 q0, .int .u64 e]) := (hE 0).2; have hbl0_4 := hbk0_4.lt; have hk0_0_4 := hbk0_4.cell 0; have hg0_0_4 := hbk0_4.frozen 0; (try simp at hk0_0_4); have hk0_1_4 := hbk0_4.cell 1; have hg0_1_4 := hbk0_4.frozen 1; (try simp at hk0_1_4); have hk0_2_4 := hbk0_4.cell 2; have hg0_2_4 := hbk0_4.frozen 2; (try simp at hk0_2_4); clear hE hJ; (try simp at hb0_4))
      clear hc4 hf4
      go_wp2_with fail
      refine (num_any _ _ _ _).mono ?_; rintro e w5 ⟨rfl, hB5⟩; obtain ⟨hc5, hf5⟩ := keep hB5; have hz5 := hB5.size; try simp at hz5
      go_wp2_with fail
      refine (HT _).mono ?_; rintro e w6 ⟨rfl, hB6⟩; obtain ⟨hc6, hf6⟩ := keep hB6; have hz6 := hB6.size; try simp at hz6
      go_wp2
      go_ret
      exact ⟨rfl, by (repeat' (first | (with_reducible exact Below.refl _ _) | (with_reducible assumption) | (with_reducible refine Below.alloc ?_ ?_ _) | (with_reducible refine Below.drew ?_) | (with_reducible refine drewN_below ?_ _) | (with_reducible refine Below.setCell ?_ ?_ _) | (with_reducible refine below_call (by with_reducible assumption) ?_ ?_) | (first | (with_reducible exact Nat.le_refl _) | (with_reducible assumption) | omega | (simp; done) | (simp; omega))))⟩
    · rw [if_neg h1']
      have hb : (e != 1) = true := bne_iff_ne.2 h1'
      have ha1 : ∀ w, (Op.stringOp .add s ⟨#[47]⟩).run Tryd.prog w = .ok (.string (s ++ ⟨#[47]⟩)) w := fun w => run_string_add_sum w s _ (by rw [show (⟨#[47]⟩ : ByteArray).size = 1 from rfl]; omega)
      have ha2 : ∀ w, (Op.stringOp .add (s ++ ⟨#[47]⟩) t).run Tryd.prog w = .ok (.string (s ++ ⟨#[47]⟩ ++ t)) w := fun w => run_string_add_sum w _ t (by rw [ByteArray.size_append, show (⟨#[47]⟩ : ByteArray).size = 1 from rfl]; omega)
      have hb1 : ¬ 9223372036854775807 < s.size + (⟨#[47]⟩ : ByteArray).size := by rw [show (⟨#[47]⟩ : ByteArray).size = 1 from rfl]; omega
      have hb2 : ¬ 9223372036854775807 < s.size + (⟨#[47]⟩ : ByteArray).size + t.size := by rw [show (⟨#[47]⟩ : ByteArray).size = 1 from rfl]; omega
      clear h1' hq he z1 z2 h1 h2 h3 h4 hd0
      go_enter Tryd.func23, Tryd.ntmps23
      go_wp2_with fail
      (refine wp_region_cells [(5, 6)] 5 (fun c => match c with | _ => ⟨3, 24, #[.int .u64 0, .int .u64 0, .int .u64 0], #[.int .u64 q1, .int .u64 q0, .int .u64 e]⟩) (by kernel_rfl) (by kernel_rfl) (by kernel_rfl) ⟨⟨_, rfl, rfl, rfl, ?_⟩, True.intro⟩ ?_; (· (intro a z; go_simp; first | done | (with_reducible rfl) | rfl)); (repeat (first | (refine stepC_val (v := ?_) (by rfl) (by rfl) ?_ ?_; rotate_left; (· (intro z hz; obtain ⟨hc, hf⟩ := keep hz; go_simp; first | done | (with_reducible rfl))); (try simp only [Act.put, List.setIfInBounds_toArray, List.set_cons_zero, List.set_cons_succ])) | (refine stepC_skip (by rfl) (by rfl) ?_; (try simp only [Act.put, List.setIfInBounds_toArray, List.set_cons_zero, List.set_cons_succ])) | (refine stepC_call (v := ?_) (f := ?_) (args := ?_) (by rfl) (by rfl) (by rfl) ?_ ?_ ?_; rotate_left; rotate_left; rotate_left; (· (intro z hz; (go_simp; first | done | (with_reducible rfl) | (constructor <;> with_reducible rfl)))); (· (intro z hz; first | (go_at_call 40; refine (num_any _ _ _ _).mono ?_; rintro e w' ⟨rfl, hB⟩; refine ⟨?_, hB⟩; with_reducible rfl) | (go_at_call 15; refine (HL _).mono ?_; rintro e w' ⟨rfl, hB⟩; refine ⟨?_, hB⟩; with_reducible rfl))); (try simp only [Act.put, List.setIfInBounds_toArray, List.set_cons_zero, List.set_cons_succ])) | (refine stepC_store (t := 24) (cs0 := #[.int .u64 0, .int .u64 0, .int .u64 0]) (cs1 := #[.int .u64 q1, .int .u64 q0, .int .u64 e]) (by rfl) (by rfl) ⟨rfl, rfl, rfl⟩ (by rfl) (by rfl) (by rfl) ?_ ?_; (· (intro z hb1_4 hk; have k0 := hk.cell 0; have g0 := hk.frozen 0; (try simp at k0); have k1 := hk.cell 1; have g1 := hk.frozen 1; (try simp at k1); have k2 := hk.cell 2; have g2 := hk.frozen 2; (try simp at k2); refine ⟨?_, ?_, ?_, ?_, ?_⟩; rotate_left; (· (go_simp; first | done | (with_reducible rfl) | (constructor <;> with_reducible rfl))); (· (intro W hW; exact (((hW.setCell hb1_4 _).setCell hb1_4 _).setCell hb1_4 _))); (· exact (((hk.set_ 0 (.int .u64 q1)).set_ 1 (.int .u64 q0)).set_ 2 (.int .u64 e))); (· (intro b' t' cs' hne h; exact (((h.set_far hne 0 _).set_far hne 1 _).set_far hne 2 _))))); (try simp only [Act.put, List.setIfInBounds_toArray, List.set_cons_zero, List.set_cons_succ])))); (refine stepC_new (by rfl) (by rfl) (by rfl) ?_; intro b0_4 hb0_4; (try simp only [Act.put, List.setIfInBounds_toArray, List.set_cons_zero, List.set_cons_succ])); (repeat (first | (refine stepC_val (v := ?_) (by rfl) (by rfl) ?_ ?_; rotate_left; (· (intro z hz; obtain ⟨hc, hf⟩ := keep hz; go_simp; first | done | (with_reducible rfl))); (try simp only [Act.put, List.setIfInBounds_toArray, List.set_cons_zero, List.set_cons_succ])) | (refine stepC_skip (by rfl) (by rfl) ?_; (try simp only [Act.put, List.setIfInBounds_toArray, List.set_cons_zero, List.set_cons_succ])) | (refine stepC_call (v := ?_) (f := ?_) (args := ?_) (by rfl) (by rfl) (by rfl) ?_ ?_ ?_; rotate_left; rotate_left; rotate_left; (· (intro z hz; (go_simp; first | done | (with_reducible rfl) | (constructor <;> with_reducible rfl)))); (· (intro z hz; first | (go_at_call 40; refine (num_any _ _ _ _).mono ?_; rintro e w' ⟨rfl, hB⟩; refine ⟨?_, hB⟩; with_reducible rfl) | (go_at_call 15; refine (HL _).mono ?_; rintro e w' ⟨rfl, hB⟩; refine ⟨?_, hB⟩; with_reducible rfl))); (try simp only [Act.put, List.setIfInBounds_toArray, List.set_cons_zero, List.set_cons_succ])) | (refine stepC_store (t := 24) (cs0 := #[.int .u64 0, .int .u64 0, .int .u64 0]) (cs1 := #[.int .u64 q1, .int .u64 q0, .int .u64 e]) (by rfl) (by rfl) ⟨rfl, rfl, rfl⟩ (by rfl) (by rfl) (by rfl) ?_ ?_; (· (intro z hb1_4 hk; have k0 := hk.cell 0; have g0 := hk.frozen 0; (try simp at k0); have k1 := hk.cell 1; have g1 := hk.frozen 1; (try simp at k1); have k2 := hk.cell 2; have g2 := hk.frozen 2; (try simp at k2); refine ⟨?_, ?_, ?_, ?_, ?_⟩; rotate_left; (· (go_simp; first | done | (with_reducible rfl) | (constructor <;> with_reducible rfl))); (· (intro W hW; exact (((hW.setCell hb1_4 _).setCell hb1_4 _).setCell hb1_4 _))); (· exact (((hk.set_ 0 (.int .u64 q1)).set_ 1 (.int .u64 q0)).set_ 2 (.int .u64 e))); (· (intro b' t' cs' hne h; exact (((h.set_far hne 0 _).set_far hne 1 _).set_far hne 2 _))))); (try simp only [Act.put, List.setIfInBounds_toArray, List.set_cons_zero, List.set_cons_succ])))); refine stepC_end ?_; intro w4 hI; obtain ⟨hB4, hE, hJ⟩ := hI; obtain ⟨hc4, hf4⟩ := bkeep hB4; have hz4 := hB4.size; (try simp at hz4); have hbk0_4 : Blk w4 b0_4 24 (#[.int .u64 q1, .int .u64 q0, .int .u64 e]) := (hE 0).2; have hbl0_4 := hbk0_4.lt; have hk0_0_4 := hbk0_4.cell 0; have hg0_0_4 := hbk0_4.frozen 0; (try simp at hk0_0_4); have hk0_1_4 := hbk0_4.cell 1; have hg0_1_4 := hbk0_4.frozen 1; (try simp at hk0_1_4); have hk0_2_4 := hbk0_4.cell 2; have hg0_2_4 := hbk0_4.frozen 2; (try simp at hk0_2_4); clear hE hJ; (try simp at hb0_4))
      clear hc4 hf4
      go_wp2_with fail
      refine (num_any _ _ _ _).mono ?_; rintro e w5 ⟨rfl, hB5⟩; obtain ⟨hc5, hf5⟩ := keep hB5; have hz5 := hB5.size; try simp at hz5
      go_wp2_with fail
      refine (HT _).mono ?_; rintro e w6 ⟨rfl, hB6⟩; obtain ⟨hc6, hf6⟩ := keep hB6; have hz6 := hB6.size; try simp at hz6
      go_wp2_with fail
      refine (HF _).mono ?_; rintro e w7 ⟨rfl, hB7⟩; obtain ⟨hc7, hf7⟩ := keep hB7; have hz7 := hB7.size; try simp at hz7
      go_wp2
      go_ret
      exact ⟨rfl, by (repeat' (first | (with_reducible exact Below.refl _ _) | (with_reducible assumption) | (with_reducible refine Below.alloc ?_ ?_ _) | (with_reducible refine Below.drew ?_) | (with_reducible refine drewN_below ?_ _) | (with_reducible refine Below.setCell ?_ ?_ _) | (with_reducible refine below_call (by with_reducible assumption) ?_ ?_) | (first | (with_reducible exact Nat.le_refl _) | (with_reducible assumption) | omega | (simp; done) | (simp; omega))))⟩

theorem orV_two (K i j : Int) : decide (orV [K, cmpV i j] < 0) = (decide (K < 0) || (decide (K = 0) && decide (i < j))) := by
  by_cases hk : K = 0
  · subst hk
    have e : orV [0, cmpV i j] = cmpV i j := by simp [orV]; exact fun h => h.symm
    rw [e, decide_eq_true rfl, Bool.true_and]
    have e2 : decide ((0 : Int) < 0) = false := rfl
    rw [e2, Bool.false_or]
    unfold cmpV
    by_cases h1 : i < j
    · simp [h1]
    · by_cases h2 : i = j
      · simp [h2]
      · simp [h1]; try (split <;> simp)
  · have e : orV [K, cmpV i j] = K := by simp [orV, hk]
    rw [e, decide_eq_false hk, Bool.false_and, Bool.or_false]
set_option maxHeartbeats 2000000 in
theorem rless_any (i ah al ad j bh bl bd : Int) (h1 : Word ah) (h2 : Word al) (h3 : Word ad) (h4 : Word bh) (h5 : Word bl) (h6 : Word bd) (w : World) :
    Calls Tryd.prog 24 #[nearV i ah al ad, nearV j bh bl bd] w fun e w' => e = .returned (.bool (decide (orV [cmpD ah al ad bh bl bd, cmpV i j] < 0))) ∧ Below w.heap.size w w' := by
  have HC := fun w => rcompareDist_any ah al ad bh bl bd h1 h2 h3 h4 h5 h6 w
  rw [orV_two]
  generalize cmpD ah al ad bh bl bd = K at *
  clear h1 h2 h3 h4 h5 h6
  by_cases hk : K < 0
  · rw [decide_eq_true hk, Bool.true_or]
    go_enter Tryd.func24, Tryd.ntmps24
    go_wp2_with fail
    refine (HC _).mono ?_; rintro e w1 ⟨rfl, hB1⟩; obtain ⟨hc1, hf1⟩ := keep hB1; have hz1 := hB1.size; try simp at hz1
    go_wp2
    go_ret
    exact ⟨rfl, by (repeat' (first | (with_reducible exact Below.refl _ _) | (with_reducible assumption) | (with_reducible refine Below.alloc ?_ ?_ _) | (with_reducible refine Below.drew ?_) | (with_reducible refine drewN_below ?_ _) | (with_reducible refine Below.setCell ?_ ?_ _) | (with_reducible refine below_call (by with_reducible assumption) ?_ ?_) | (first | (with_reducible exact Nat.le_refl _) | (with_reducible assumption) | omega | (simp; done) | (simp; omega))))⟩
  · rw [decide_eq_false hk, Bool.false_or]
    by_cases h0 : K = 0
    · subst h0
      rw [decide_eq_true rfl, Bool.true_and]
      go_enter Tryd.func24, Tryd.ntmps24
      go_wp2_with fail
      refine (HC _).mono ?_; rintro e w1 ⟨rfl, hB1⟩; obtain ⟨hc1, hf1⟩ := keep hB1; have hz1 := hB1.size; try simp at hz1
      go_wp2
      go_ret
      exact ⟨rfl, by (repeat' (first | (with_reducible exact Below.refl _ _) | (with_reducible assumption) | (with_reducible refine Below.alloc ?_ ?_ _) | (with_reducible refine Below.drew ?_) | (with_reducible refine drewN_below ?_ _) | (with_reducible refine Below.setCell ?_ ?_ _) | (with_reducible refine below_call (by with_reducible assumption) ?_ ?_) | (first | (with_reducible exact Nat.le_refl _) | (with_reducible assumption) | omega | (simp; done) | (simp; omega))))⟩
    · rw [decide_eq_false h0, Bool.false_and]
      have hb : (K == 0) = false := beq_eq_false_iff_ne.2 h0
      go_enter Tryd.func24, Tryd.ntmps24
      go_wp2_with fail
      refine (HC _).mono ?_; rintro e w1 ⟨rfl, hB1⟩; obtain ⟨hc1, hf1⟩ := keep hB1; have hz1 := hB1.size; try simp at hz1
      go_wp2
      go_ret
      exact ⟨rfl, by (repeat' (first | (with_reducible exact Below.refl _ _) | (with_reducible assumption) | (with_reducible refine Below.alloc ?_ ?_ _) | (with_reducible refine Below.drew ?_) | (with_reducible refine drewN_below ?_ _) | (with_reducible refine Below.setCell ?_ ?_ _) | (with_reducible refine below_call (by with_reducible assumption) ?_ ?_) | (first | (with_reducible exact Nat.le_refl _) | (with_reducible assumption) | omega | (simp; done) | (simp; omega))))⟩
end Go.Proofs.YthamagnlpndnoaaDoor
