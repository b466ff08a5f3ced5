/- WideBack: what is added is taken off again; a sum is less than its parts just when there was a carry. For every two numbers; no condition. -/
import Derived.Test.YtpmnghobcciiaaaDoorL1Awake
import Derived.Test.YtpmnghobcciiaaaDoorWideSub
import Derived.Test.YtpmnghobcciiaaaDoorTied
import Derived.Test.YtpmnghobcciiaaaDoorTie
import Derived.Test.YtpmnghobcciiaaaDoorCards
namespace Go.Proofs.YtpmnghobcciiaaaDoor
open Go.ChangeShapes Go.WideShapes Go.ChangeAt Go.RowKit

theorem back_math {ah al bh bl : Int} (h1 : Word ah) (h2 : Word al) (h3 : Word bh) (h4 : Word bl) :
    hiOf (num (hiOf (num ah al + num bh bl)) (loOf (num ah al + num bh bl)) - num bh bl) = ah ∧ loOf (num (hiOf (num ah al + num bh bl)) (loOf (num ah al + num bh bl)) - num bh bl) = al ∧
    decide (num (hiOf (num ah al + num bh bl)) (loOf (num ah al + num bh bl)) < num bh bl) = overB (num ah al + num bh bl) ∧
    decide (cmpV (num (hiOf (num ah al + num bh bl)) (loOf (num ah al + num bh bl))) (num ah al) < 0) = overB (num ah al + num bh bl) := by
  unfold Word at *
  refine ⟨?_, ?_, ?_, ?_⟩
  · unfold hiOf loOf num; omega
  · unfold hiOf loOf num; omega
  · unfold overB; rw [decide_eq_decide]; unfold hiOf loOf num; omega
  · unfold overB; rw [decide_eq_decide]; unfold cmpV hiOf loOf num; omega
theorem back_zero {ah al bh bl : Int} (h1 : Word ah) (h2 : Word al) (h3 : Word bh) (h4 : Word bl) :
    eq2 (hiOf (num ah al - num bh bl)) (loOf (num ah al - num bh bl)) 0 0 = eq2 ah al bh bl := by
  unfold Word at *
  unfold eq2
  rw [Bool.eq_iff_iff]
  simp only [Bool.and_eq_true, decide_eq_true_eq]
  unfold hiOf loOf num
  omega
theorem cmp_neg (x y : Int) : IntKind.i64.wrap (-cmpV y x) = cmpV x y ∧ -cmpV y x = cmpV x y ∧ IntKind.i64.wrap (cmpV x y) = cmpV x y := by
  have h : -cmpV y x = cmpV x y := by unfold cmpV; omega
  have hb : -1 ≤ cmpV x y ∧ cmpV x y ≤ 1 := by unfold cmpV; omega
  rw [h, IntKind.wrap_i64]
  omega

set_option maxHeartbeats 4000000 in
theorem back_walk (ah al bh bl : Int) (h1 : Word ah) (h2 : Word al) (h3 : Word bh) (h4 : Word bl) (w : World) (htab : Tab w) :
    Calls Tryd.prog 7 #[.int .u64 ah, .int .u64 al, .int .u64 bh, .int .u64 bl] w fun e w' => e = .returned (.bool true) ∧ Below w.heap.size w w' := by
  obtain ⟨m1, m2, m3, m4⟩ := back_math h1 h2 h3 h4
  have m5 := back_zero h1 h2 h3 h4
  have HA := fun w => wadd_any ah al bh bl h1 h2 h3 h4 w
  have HA2 := fun w => wadd_any bh bl ah al h3 h4 h1 h2 w
  rw [Int.add_comm (num bh bl)] at HA2
  have HS := fun w => wsub_any ah al bh bl h1 h2 h3 h4 w
  have HS2 := fun w => wsub_any (hiOf (num ah al + num bh bl)) (loOf (num ah al + num bh bl)) bh bl (hiOf_word _) (loOf_word _) h3 h4 w
  rw [m1, m2, m3] at HS2
  have hSw := loOf_word (num ah al + num bh bl)
  obtain ⟨g1, g2, g4⟩ := cmp_neg (num ah al) (num bh bl)
  have g3 : decide (cmpV (num ah al) (num bh bl) < 0) = decide (num ah al < num bh bl) := by rw [decide_eq_decide]; unfold cmpV; omega
  clear m1 m2 m3
  generalize hiOf (num ah al + num bh bl) = S1 at *
  generalize loOf (num ah al + num bh bl) = S0 at *
  generalize overB (num ah al + num bh bl) = O at *
  generalize hiOf (num ah al - num bh bl) = D1 at *
  generalize loOf (num ah al - num bh bl) = D0 at *
  generalize decide (num ah al < num bh bl) = U at *
  clear h1 h3
  go_enter Tryd.func7, Tryd.ntmps7
  go_wp2_with fail
  refine (lw_any _ _ _).mono ?_; rintro e w1 ⟨rfl, hB1⟩; obtain ⟨hc1, hf1⟩ := keep hB1; have hz1 := hB1.size; try simp at hz1
  go_wp2_with fail
  refine (lw_any _ _ _).mono ?_; rintro e w2 ⟨rfl, hB2⟩; obtain ⟨hc2, hf2⟩ := keep hB2; have hz2 := hB2.size; try simp at hz2
  go_wp2_with fail
  refine (HA _).mono ?_; rintro e w3 ⟨rfl, hB3⟩; obtain ⟨hc3, hf3⟩ := keep hB3; have hz3 := hB3.size; try simp at hz3
  go_wp2_with fail
  refine (HA2 _).mono ?_; rintro e w4 ⟨rfl, hB4⟩; obtain ⟨hc4, hf4⟩ := keep hB4; have hz4 := hB4.size; try simp at hz4
  go_wp2_with fail
  refine (HS2 _).mono ?_; rintro e w5 ⟨rfl, hB5⟩; obtain ⟨hc5, hf5⟩ := keep hB5; have hz5 := hB5.size; try simp at hz5
  go_wp2_with fail
  refine (HS _).mono ?_; rintro e w6 ⟨rfl, hB6⟩; obtain ⟨hc6, hf6⟩ := keep hB6; have hz6 := hB6.size; try simp at hz6
  go_wp2_with fail
  have hBB : Below w.heap.size w w6 := by (repeat' (first | (with_reducible exact Below.refl _ _) | (with_reducible assumption) | (with_reducible refine Below.alloc ?_ ?_ _) | (with_reducible refine Below.drew ?_) | (with_reducible refine drewN_below ?_ _) | (with_reducible refine Below.setCell ?_ ?_ _) | (with_reducible refine below_call (by with_reducible assumption) ?_ ?_) | (first | (with_reducible exact Nat.le_refl _) | (with_reducible assumption) | omega | (simp; done) | (simp; omega))))
  (refine wp_region_text (by kernel_rfl) (by kernel_rfl) ?_; (repeat (first | (refine step_val (v := ?_) (by rfl) ?_ ?_; rotate_left; (· (intro z hz; obtain ⟨hc, hf⟩ := keep hz; go_simp; first | done | (with_reducible rfl))); (try simp only [Act.put, List.setIfInBounds_toArray, List.set_cons_zero, List.set_cons_succ])) | (refine step_skip (by rfl) ?_; (try simp only [Act.put, List.setIfInBounds_toArray, List.set_cons_zero, List.set_cons_succ])) | (refine step_call (v := ?_) (f := ?_) (args := ?_) (by rfl) ?_ ?_ ?_; rotate_left; rotate_left; rotate_left; (· (intro z hz; go_simp; first | done | (with_reducible rfl) | (constructor <;> with_reducible rfl))); (· (intro z hz; first | (go_at_call 12; refine (wcompare_any _ _ _ _ (by assumption) (by assumption) _).mono ?_; rintro e w' ⟨rfl, hB⟩; refine ⟨?_, hz.trans (hB.mono hz.size)⟩; with_reducible rfl) | (go_at_call 18; refine (lw_any _ _ _).mono ?_; rintro e w' ⟨rfl, hB⟩; refine ⟨?_, hz.trans (hB.mono hz.size)⟩; with_reducible rfl) | (go_at_call 15; refine (awake1_any _ (htab.below (by (repeat' (first | (with_reducible exact Below.refl _ _) | (with_reducible assumption) | (with_reducible refine Below.alloc ?_ ?_ _) | (with_reducible refine Below.drew ?_) | (with_reducible refine drewN_below ?_ _) | (with_reducible refine Below.setCell ?_ ?_ _) | (with_reducible refine below_call (by with_reducible assumption) ?_ ?_) | (first | (with_reducible exact Nat.le_refl _) | (with_reducible assumption) | omega | (simp; done) | (simp; omega))))))).mono ?_; rintro e w' ⟨rfl, hB⟩; refine ⟨?_, hz.trans (hB.mono hz.size)⟩; with_reducible rfl))); (try simp only [Act.put, List.setIfInBounds_toArray, List.set_cons_zero, List.set_cons_succ])))); refine steps_end ?_; intro w' hB; obtain ⟨hc, hf⟩ := keep hB; have hz := hB.size; try simp at hz)
  go_wp2
  go_ret
  exact ⟨rfl, by (repeat' (first | (with_reducible exact Below.refl _ _) | (with_reducible assumption) | (with_reducible refine Below.alloc ?_ ?_ _) | (with_reducible refine Below.drew ?_) | (with_reducible refine drewN_below ?_ _) | (with_reducible refine Below.setCell ?_ ?_ _) | (with_reducible refine below_call (by with_reducible assumption) ?_ ?_) | (first | (with_reducible exact Nat.le_refl _) | (with_reducible assumption) | omega | (simp; done) | (simp; omega))))⟩

set_option maxRecDepth 100000 in
theorem back_lifted (os : Os) (started : os.Started) (H : Type) (enc : TypeId × Value → H) :
    ReturnsInHanded {} Tryd.checked os 7 .any (fun w args => (Rows.wideBackSpec.pre enc Tryd.prog Tryd.f7 [] false w args ∧ laidMet Tryd.prog laidL w) ∧ sizedMet enc Tryd.prog Tryd.f7 (OpenSpec.ofChange Rows.wideBackSpec) false w args) (Rows.wideBackSpec.post enc Tryd.prog Tryd.f7 false true false false) := by
  refine returnsInHanded_of_change_and (C := Tryd.checked) (X := fun w _ => laidMet Tryd.prog laidL w) (fun _ _ _ hh h => laid_heap hh h) own started (by kernel_rfl) Tryd.func7
    (ChangeSpec.witness_at (enc := enc) (C := Tryd.checked) (os := os) (X := fun w _ => laidMet Tryd.prog laidL w) false (laidWorld os) #[.int .u64 0, .int .u64 0, .int .u64 0, .int .u64 0] 8 rfl (by kernel_rfl) (by kernel_rfl) (by kernel_rfl) (by kernel_rfl) (by kernel_rfl) (laidWorld_met os _)) ?_
  intro W base args ds gs before hval0 hW _ _ hL _
  have hval : ∀ (j : Nat) t v, Tryd.f7.params[j]? = some t → args[j]? = some v → Value.okWide Tryd.prog W .any base t v := hval0
  have hT := tab_of_laid hL
  have hW' := hW
  obtain ⟨p, q, hA0, hV, rfl, _, _⟩ := hW
  have hA : DataW.TrodAll enc Tryd.prog W 0 (fun _ => true) true Tryd.f7.params.toList args.toList ds p := hA0
  rw [Tryd.params7] at hA hval
  obtain ⟨v0, vs0, d0, ds0, p0, q0, hargs, rfl, rfl, h0, r0⟩ := trodAll_cons hA
  obtain ⟨v1, vs1, d1, ds1, p1, q1, rfl, rfl, rfl, h1, r1⟩ := trodAll_cons r0
  obtain ⟨v2, vs2, d2, ds2, p2, q2, rfl, rfl, rfl, h2, r2⟩ := trodAll_cons r1
  obtain ⟨v3, vs3, d3, ds3, p3, q3, rfl, rfl, rfl, h3, r3⟩ := trodAll_cons r2
  obtain ⟨rfl, rfl, rfl⟩ := trodAll_nil r3
  obtain rfl : args = #[v0, v1, v2, v3] := by cases args; simp_all
  obtain ⟨rfl, rfl⟩ := trodVars_none hV
  obtain ⟨x0a, rfl, rfl, rfl, wx0a⟩ := open_int Tryd.underlying22 (hval 0 22 v0 rfl rfl) h0
  obtain ⟨x1a, rfl, rfl, rfl, wx1a⟩ := open_int Tryd.underlying22 (hval 1 22 v1 rfl rfl) h1
  obtain ⟨x2a, rfl, rfl, rfl, wx2a⟩ := open_int Tryd.underlying22 (hval 2 22 v2 rfl rfl) h2
  obtain ⟨x3a, rfl, rfl, rfl, wx3a⟩ := open_int Tryd.underlying22 (hval 3 22 v3 rfl rfl) h3
  refine (back_walk _ _ _ _ (word_of_wf wx0a) (word_of_wf wx1a) (word_of_wf wx2a) (word_of_wf wx3a) W hT).mono fun e W' ⟨he, hb⟩ => ?_
  subst he
  exact ⟨_, rfl, post_true laidOut (by kernel_rfl) rfl hW' hb (trodAll_mk1 (shut_bool Tryd.underlying4 _)) rfl rfl⟩

theorem back_holds : Rows.WideBackSaid :=
  OpenClaim.holds_of_wide 7 Tryd.f7 rfl rfl rfl rfl rfl rfl rfl ⟨rfl, rfl, rfl, rfl, rfl⟩ rfl rfl rfl rfl rfl (by kernel_rfl) Tryd.func7 (by kernel_rfl)
    (of_decide_eq_true (by kernel_rfl)) (by unfold Func.isWrapper; rw [if_neg (of_decide_eq_false (by kernel_rfl))]; exact ⟨rfl, rfl⟩)
    (fun os started H enc _ => back_lifted os started H enc)

theorem back_card : Rows.WideBackCardSaid :=
  Claim7.holds_tied_plain_at .later [] [.data, .data, .data] true (true, "4a14bf82196382be670ee67696ed6504ac63f053d7b56463f2dc3046ea5a8924") false
    back_holds (fun _ h => by cases h) (by kernel_rfl) (fun _ h => by cases h) wideBack_row_tie rfl ⟨rfl, rfl⟩ (by kernel_rfl) rfl
    (fun f fn hf hfn => by
      obtain rfl : f = 7 := Option.some.inj ((show Tryd.prog.funcNamed "pergola/pergolalaw1.WideBack" = some 7 by kernel_rfl).symm.trans hf) |>.symm
      obtain rfl : fn = Tryd.f7 := (Option.some.inj (Tryd.func7.symm.trans hfn)).symm
      refine ⟨by kernel_rfl, fun j t ht => ?_⟩
      have hall : (Tryd.f7.params.toList.all fun t => !(Tryd.prog.wantsStandIn t)) = true := by kernel_rfl
      have := List.all_eq_true.1 hall t (by simpa using Array.mem_of_getElem? ht)
      exact (by simpa using this : Tryd.prog.wantsStandIn t = false))
    (by kernel_rfl)
#print axioms back_card
end Go.Proofs.YtpmnghobcciiaaaDoor
