/- RatioScales: a fraction whose both parts are as many times as great is the same. For every three words; no condition. -/
import Derived.Test.YthamagnlpndnoaaDoorL2Awake
import Derived.Test.YthamagnlpndnoaaDoorL2Math
import Derived.Test.YthamagnlpndnoaaDoorTied
import Derived.Test.YthamagnlpndnoaaDoorTie
import Derived.Test.YthamagnlpndnoaaDoorCards
namespace Go.Proofs.YthamagnlpndnoaaDoor
open Go.ChangeShapes Go.WideShapes Go.ChangeAt Go.RowKit

theorem scale_math {l d k : Int} (hl : 0 ≤ l) (hd : 0 < d) (hk : 0 < k) :
    l * k / lowG (l * k) (d * k) = l / lowG l d ∧ d * k / lowG (l * k) (d * k) = d / lowG l d ∧ cmpN (l * k) (d * k) (l / lowG l d) (d / lowG l d) = 0 := by
  have hdk : 0 < d * k := Int.mul_pos hd hk
  have hlk : 0 ≤ l * k := Int.mul_nonneg hl (Int.le_of_lt hk)
  obtain ⟨h1, h2⟩ := low_eq hlk hdk hl hd (by rw [Int.mul_comm d k, Int.mul_assoc])
  refine ⟨h1, h2, ?_⟩
  obtain ⟨a, b, g, e1, e2, _, g0, b0, _, e3, e4⟩ := low_parts hl hd
  rw [e3, e4]
  unfold cmpN
  rw [if_neg (by omega), if_neg (by omega), cmpV_zero, e1, e2]
  rw [Int.mul_comm (g : Int) a, Int.mul_comm (g : Int) b]
  simp only [Int.mul_assoc]
  congr 1
  rw [← Int.mul_assoc]
  exact Int.mul_comm _ _

set_option maxHeartbeats 2000000 in
theorem scales_out (l d k : Int) (g1 g2 g3 g4 : Bool) (f1 : (d == 0) = g1) (f2 : decide (2147483648 < d) = g2) (f3 : (k == 0) = g3) (f4 : decide (2147483648 < k) = g4)
    (hc : g1 = true ∨ (g1 = false ∧ g2 = true) ∨ (g1 = false ∧ g2 = false ∧ g3 = true) ∨ (g1 = false ∧ g2 = false ∧ g3 = false ∧ g4 = true)) (w : World) (htab : Tab w) :
    Calls Tryd.prog 5 #[.int .u64 l, .int .u64 d, .int .u64 k] w fun e w' => e = .returned (.bool true) ∧ Below w.heap.size w w' := by
  rcases hc with rfl | ⟨rfl, rfl⟩ | ⟨rfl, rfl, rfl⟩ | ⟨rfl, rfl, rfl, rfl⟩
  all_goals
    go_enter Tryd.func5, Tryd.ntmps5
    go_wp2_with fail
    refine (awake2_any _ (htab.below (by (repeat' (first | (with_reducible exact Below.refl _ _) | (with_reducible assumption) | (with_reducible refine Below.alloc ?_ ?_ _) | (with_reducible refine Below.drew ?_) | (with_reducible refine drewN_below ?_ _) | (with_reducible refine Below.setCell ?_ ?_ _) | (with_reducible refine below_call (by with_reducible assumption) ?_ ?_) | (first | (with_reducible exact Nat.le_refl _) | (with_reducible assumption) | omega | (simp; done) | (simp; omega))))))).mono ?_; rintro e w1 ⟨rfl, hB1⟩; obtain ⟨hc1, hf1⟩ := keep hB1; have hz1 := hB1.size; try simp at hz1
    go_wp2
    go_ret
    exact ⟨rfl, by (repeat' (first | (with_reducible exact Below.refl _ _) | (with_reducible assumption) | (with_reducible refine Below.alloc ?_ ?_ _) | (with_reducible refine Below.drew ?_) | (with_reducible refine drewN_below ?_ _) | (with_reducible refine Below.setCell ?_ ?_ _) | (with_reducible refine below_call (by with_reducible assumption) ?_ ?_) | (first | (with_reducible exact Nat.le_refl _) | (with_reducible assumption) | omega | (simp; done) | (simp; omega))))⟩

set_option maxHeartbeats 4000000 in
set_option maxRecDepth 100000 in
theorem scales_in (l d k : Int) (h2 : Word l) (hd0 : 0 < d) (hd1 : d ≤ 2147483648) (hk0 : 0 < k) (hk1 : k ≤ 2147483648) (w : World) (htab : Tab w) :
    Calls Tryd.prog 5 #[.int .u64 l, .int .u64 d, .int .u64 k] w fun e w' => e = .returned (.bool true) ∧ Below w.heap.size w w' := by
  have w0 : Word 0 := by unfold Word; omega
  have wd : Word d := by unfold Word; omega
  have wk : Word k := by unfold Word; omega
  have hdk0 : 0 < d * k := Int.mul_pos hd0 hk0
  have hdk1 : d * k ≤ 2147483648 * 2147483648 := Int.mul_le_mul hd1 hk1 (by omega) (by omega)
  have wdk : Word (d * k) := by unfold Word; omega
  have hdw : IntKind.u64.wrap (d * k) = d * k := by rw [IntKind.wrap_u64]; omega
  obtain ⟨m1, m2, m3⟩ := scale_math h2.1 hd0 hk0
  have hlk := mul_word_big h2 wk
  have e0 : num 0 l = l := by unfold num; omega
  have HA := fun w => make_any 0 l d w0 h2 wd hd0 w
  rw [e0] at HA
  have HM := fun w => wmul_any l k h2 wk w
  have HB := fun w => make_any (hiOf (l * k)) (loOf (l * k)) (d * k) (hiOf_word _) (loOf_word _) wdk hdk0 w
  rw [num_hl hlk, m1, m2] at HB
  have hq : Big (l / lowG l d) ∧ Word (d / lowG l d) := by
    have := low_words w0 h2 wd hd0
    rw [e0] at this; exact this
  have HC := fun w => rcmp_any (hiOf (l * k)) (loOf (l * k)) (d * k) (hiOf (l / lowG l d)) (loOf (l / lowG l d)) (d / lowG l d) (hiOf_word _) (loOf_word _) wdk (hiOf_word _) (loOf_word _) hq.2 w
  rw [cmpD_cmpN, num_hl hlk, num_hl hq.1, m3] at HC
  have hT : distText (num (hiOf (l * k)) (loOf (l * k))) (d * k) = distText (num (hiOf (l / lowG l d)) (loOf (l / lowG l d))) (d / lowG l d) := by
    rw [num_hl hlk, num_hl hq.1]
    exact (text_iff hlk.1 (Int.le_of_lt hdk0) hq.1.1 hq.2.1).2 m3
  have t1 := hiOf_word (l * k)
  have t0 := loOf_word (l * k)
  have q1 := hiOf_word (l / lowG l d)
  have q0 := loOf_word (l / lowG l d)
  have qe := hq.2
  have n1 : (d == 0) = false := beq_eq_false_iff_ne.2 (by omega)
  have n2 : decide (2147483648 < d) = false := decide_eq_false (by omega)
  have n3 : (k == 0) = false := beq_eq_false_iff_ne.2 (by omega)
  have n4 : decide (2147483648 < k) = false := decide_eq_false (by omega)
  clear m1 m2 m3 hq hlk e0 hdk0 hdk1 hd0 hd1 hk0 hk1
  generalize hiOf (l * k) = x1 at *
  generalize loOf (l * k) = x0 at *
  generalize hiOf (l / lowG l d) = a1 at *
  generalize loOf (l / lowG l d) = a0 at *
  generalize d / lowG l d = a at *
  go_enter Tryd.func5, Tryd.ntmps5
  go_wp2_with fail
  refine (HA _).mono ?_; rintro e w1 ⟨rfl, hB1⟩; obtain ⟨hc1, hf1⟩ := keep hB1; have hz1 := hB1.size; try simp at hz1
  go_wp2_with fail
  refine (HM _).mono ?_; rintro e w2 ⟨rfl, hB2⟩; obtain ⟨hc2, hf2⟩ := keep hB2; have hz2 := hB2.size; try simp at hz2
  go_wp2_with fail
  refine (HB _).mono ?_; rintro e w3 ⟨rfl, hB3⟩; obtain ⟨hc3, hf3⟩ := keep hB3; have hz3 := hB3.size; try simp at hz3
  go_wp2_with fail
  refine (HM _).mono ?_; rintro e w4 ⟨rfl, hB4⟩; obtain ⟨hc4, hf4⟩ := keep hB4; have hz4 := hB4.size; try simp at hz4
  go_wp2_with fail
  (refine wp_region_text (by kernel_rfl) (by kernel_rfl) ?_; (repeat (first | (refine step_val (v := ?_) (by rfl) ?_ ?_; rotate_left; (· (intro z hz; obtain ⟨hc, hf⟩ := keep hz; go_simp; first | done | (with_reducible rfl))); (try simp only [Act.put, List.setIfInBounds_toArray, List.set_cons_zero, List.set_cons_succ])) | (refine step_skip (by rfl) ?_; (try simp only [Act.put, List.setIfInBounds_toArray, List.set_cons_zero, List.set_cons_succ])) | (refine step_call (v := ?_) (f := ?_) (args := ?_) (by rfl) ?_ ?_ ?_; rotate_left; rotate_left; rotate_left; (· (intro z hz; go_simp; first | done | (with_reducible rfl) | (constructor <;> with_reducible rfl))); (· (intro z hz; first | (go_at_call 17; refine (HC _).mono ?_; rintro e w' ⟨rfl, hB⟩; refine ⟨?_, hz.trans (hB.mono hz.size)⟩; with_reducible rfl) | (go_at_call 18; refine (rtext_any _ _ _ (by assumption) (by assumption) (by assumption) _ (htab.below (by (repeat' (first | (with_reducible exact Below.refl _ _) | (with_reducible assumption) | (with_reducible refine Below.alloc ?_ ?_ _) | (with_reducible refine Below.drew ?_) | (with_reducible refine drewN_below ?_ _) | (with_reducible refine Below.setCell ?_ ?_ _) | (with_reducible refine below_call (by with_reducible assumption) ?_ ?_) | (first | (with_reducible exact Nat.le_refl _) | (with_reducible assumption) | omega | (simp; done) | (simp; omega))))))).mono ?_; rintro e w' ⟨rfl, hB⟩; refine ⟨?_, hz.trans (hB.mono hz.size)⟩; with_reducible rfl) | (go_at_call 14; refine (awake2_any _ (htab.below (by (repeat' (first | (with_reducible exact Below.refl _ _) | (with_reducible assumption) | (with_reducible refine Below.alloc ?_ ?_ _) | (with_reducible refine Below.drew ?_) | (with_reducible refine drewN_below ?_ _) | (with_reducible refine Below.setCell ?_ ?_ _) | (with_reducible refine below_call (by with_reducible assumption) ?_ ?_) | (first | (with_reducible exact Nat.le_refl _) | (with_reducible assumption) | omega | (simp; done) | (simp; omega))))))).mono ?_; rintro e w' ⟨rfl, hB⟩; refine ⟨?_, hz.trans (hB.mono hz.size)⟩; with_reducible rfl))); (try simp only [Act.put, List.setIfInBounds_toArray, List.set_cons_zero, List.set_cons_succ])))); refine steps_end ?_; intro w' hB; obtain ⟨hc, hf⟩ := keep hB; have hz := hB.size; try simp at hz)
  go_wp2
  go_ret
  exact ⟨rfl, by (repeat' (first | (with_reducible exact Below.refl _ _) | (with_reducible assumption) | (with_reducible refine Below.alloc ?_ ?_ _) | (with_reducible refine Below.drew ?_) | (with_reducible refine drewN_below ?_ _) | (with_reducible refine Below.setCell ?_ ?_ _) | (with_reducible refine below_call (by with_reducible assumption) ?_ ?_) | (first | (with_reducible exact Nat.le_refl _) | (with_reducible assumption) | omega | (simp; done) | (simp; omega))))⟩

theorem scales_walk (l d k : Int) (h2 : Word l) (hd : Word d) (hk : Word k) (w : World) (htab : Tab w) :
    Calls Tryd.prog 5 #[.int .u64 l, .int .u64 d, .int .u64 k] w fun e w' => e = .returned (.bool true) ∧ Below w.heap.size w w' := by
  by_cases h : 0 < d ∧ d ≤ 2147483648 ∧ 0 < k ∧ k ≤ 2147483648
  · exact scales_in l d k h2 h.1 h.2.1 h.2.2.1 h.2.2.2 w htab
  · refine scales_out l d k _ _ _ _ rfl rfl rfl rfl ?_ w htab
    simp only [beq_iff_eq, beq_eq_false_iff_ne, ne_eq, decide_eq_true_eq, decide_eq_false_iff_not]
    unfold Word at *
    omega

set_option maxRecDepth 100000 in
theorem scales_lifted (os : Os) (started : os.Started) (H : Type) (enc : TypeId × Value → H) :
    ReturnsInHanded {} Tryd.checked os 5 .any (fun w args => (Rows.ratioScalesSpec.pre enc Tryd.prog Tryd.f5 [] false w args ∧ laidMet Tryd.prog laidL w) ∧ sizedMet enc Tryd.prog Tryd.f5 (OpenSpec.ofChange Rows.ratioScalesSpec) false w args) (Rows.ratioScalesSpec.post enc Tryd.prog Tryd.f5 false true false false) := by
  refine returnsInHanded_of_change_and (C := Tryd.checked) (X := fun w _ => laidMet Tryd.prog laidL w) (fun _ _ _ hh h => laid_heap hh h) own started (by kernel_rfl) Tryd.func5
    (ChangeSpec.witness_at (enc := enc) (C := Tryd.checked) (os := os) (X := fun w _ => laidMet Tryd.prog laidL w) false (laidWorld os) #[.int .u64 0, .int .u64 0, .int .u64 0] 8 rfl (by kernel_rfl) (by kernel_rfl) (by kernel_rfl) (by kernel_rfl) (by kernel_rfl) (laidWorld_met os _)) ?_
  intro W base args ds gs before hval0 hW _ _ hL _
  have hval : ∀ (j : Nat) t v, Tryd.f5.params[j]? = some t → args[j]? = some v → Value.okWide Tryd.prog W .any base t v := hval0
  have hT := tab_of_laid hL
  have hW' := hW
  obtain ⟨p, q, hA0, hV, rfl, _, _⟩ := hW
  have hA : DataW.TrodAll enc Tryd.prog W 0 (fun _ => true) true Tryd.f5.params.toList args.toList ds p := hA0
  rw [Tryd.params5] at hA hval
  obtain ⟨v0, vs0, d0, ds0, p0, q0, hargs, rfl, rfl, h0, r0⟩ := trodAll_cons hA
  obtain ⟨v1, vs1, d1, ds1, p1, q1, rfl, rfl, rfl, h1, r1⟩ := trodAll_cons r0
  obtain ⟨v2, vs2, d2, ds2, p2, q2, rfl, rfl, rfl, h2, r2⟩ := trodAll_cons r1
  obtain ⟨rfl, rfl, rfl⟩ := trodAll_nil r2
  obtain rfl : args = #[v0, v1, v2] := by cases args; simp_all
  obtain ⟨rfl, rfl⟩ := trodVars_none hV
  obtain ⟨x0a, rfl, rfl, rfl, wx0a⟩ := open_int Tryd.underlying22 (hval 0 22 v0 rfl rfl) h0
  obtain ⟨x1a, rfl, rfl, rfl, wx1a⟩ := open_int Tryd.underlying22 (hval 1 22 v1 rfl rfl) h1
  obtain ⟨x2a, rfl, rfl, rfl, wx2a⟩ := open_int Tryd.underlying22 (hval 2 22 v2 rfl rfl) h2
  refine (scales_walk _ _ _ (word_of_wf wx0a) (word_of_wf wx1a) (word_of_wf wx2a) W hT).mono fun e W' ⟨he, hb⟩ => ?_
  subst he
  exact ⟨_, rfl, post_true laidOut (by kernel_rfl) rfl hW' hb (trodAll_mk1 (shut_bool Tryd.underlying4 _)) rfl rfl⟩

theorem scales_holds : Rows.RatioScalesSaid :=
  OpenClaim.holds_of_wide 5 Tryd.f5 rfl rfl rfl rfl rfl rfl rfl ⟨rfl, rfl, rfl, rfl, rfl⟩ rfl rfl rfl rfl rfl (by kernel_rfl) Tryd.func5 (by kernel_rfl)
    (of_decide_eq_true (by kernel_rfl)) (by unfold Func.isWrapper; rw [if_neg (of_decide_eq_false (by kernel_rfl))]; exact ⟨rfl, rfl⟩)
    (fun os started H enc _ => scales_lifted os started H enc)

theorem scales_card : Rows.RatioScalesCardSaid :=
  Claim7.holds_tied_plain_at .later [] [.data, .data, .data] true (true, "59809f3e1549d4f568f852ccf1b2e93c587261b9280541bfe02b80e992a06706") true
    scales_holds (fun _ h => by cases h) (by kernel_rfl) (fun _ h => by cases h) ratioScales_row_tie rfl ⟨rfl, rfl⟩ (by kernel_rfl) rfl
    (fun f fn hf hfn => by
      obtain rfl : f = 5 := Option.some.inj ((show Tryd.prog.funcNamed "pergola/pergolalaw2.RatioScales" = some 5 by kernel_rfl).symm.trans hf) |>.symm
      obtain rfl : fn = Tryd.f5 := (Option.some.inj (Tryd.func5.symm.trans hfn)).symm
      refine ⟨by kernel_rfl, fun j t ht => ?_⟩
      have hall : (Tryd.f5.params.toList.all fun t => !(Tryd.prog.wantsStandIn t)) = true := by kernel_rfl
      have := List.all_eq_true.1 hall t (by simpa using Array.mem_of_getElem? ht)
      exact (by simpa using this : Tryd.prog.wantsStandIn t = false))
    (by kernel_rfl)
#print axioms scales_card
end Go.Proofs.YthamagnlpndnoaaDoor
