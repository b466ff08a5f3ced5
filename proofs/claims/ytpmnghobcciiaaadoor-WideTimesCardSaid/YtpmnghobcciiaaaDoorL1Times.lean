/- WideTimes: any numbers are multiplied, and products compared, whole. For every two numbers, words and number; no condition. -/
import Derived.Test.YtpmnghobcciiaaaDoorL1Awake
import Derived.Test.YtpmnghobcciiaaaDoorTied
import Derived.Test.YtpmnghobcciiaaaDoorTie
import Derived.Test.YtpmnghobcciiaaaDoorCards
namespace Go.Proofs.YtpmnghobcciiaaaDoor
open Go.ChangeShapes Go.WideShapes Go.ChangeAt Go.RowKit

set_option maxHeartbeats 4000000 in
theorem times_walk (ah al b ch cl d n : Int) (h1 : Word ah) (h2 : Word al) (h3 : Word b) (h4 : Word ch) (h5 : Word cl) (h6 : Word d) (hn : Int64 n) (w : World) (htab : Tab w) :
    Calls Tryd.prog 8 #[.int .u64 ah, .int .u64 al, .int .u64 b, .int .u64 ch, .int .u64 cl, .int .u64 d, .int .i64 n] w fun e w' => e = .returned (.bool true) ∧ Below w.heap.size w w' := by
  have HT := fun w => wtimes_any ah al b h1 h2 h3 w
  have HRT := fun w => rtimes_any ah al b h1 h2 h3 w
  have HM := fun w => wmul_any al b h2 h3 w
  have HRM := fun w => rmul_any al b h2 h3 w
  have HS := fun w => wsquare_any n hn w
  have HRS := fun w => rsquare_any n hn w
  have HC := fun w => wcmpProducts_any ah al b ch cl d h1 h2 h3 h4 h5 h6 w
  have HRC := fun w => rcmpProducts_any ah al b ch cl d h1 h2 h3 h4 h5 h6 w
  generalize cmpV (num ah al * b) (num ch cl * d) = K at *
  generalize topOf (num ah al * b) = t2 at *
  generalize hiOf (num ah al * b) = t1 at *
  generalize loOf (num ah al * b) = t0 at *
  generalize hiOf (al * b) = m1 at *
  generalize loOf (al * b) = m0 at *
  generalize hiOf (n * n) = s1 at *
  generalize loOf (n * n) = s0 at *
  clear h1 h2 h3 h4 h5 h6 hn
  go_enter Tryd.func8, Tryd.ntmps8
  go_wp2_with fail
  refine (lw_any _ _ _).mono ?_; rintro e w1 ⟨rfl, hB1⟩; obtain ⟨hc1, hf1⟩ := keep hB1; have hz1 := hB1.size; try simp at hz1
  go_wp2_with fail
  refine (HT _).mono ?_; rintro e w2 ⟨rfl, hB2⟩; obtain ⟨hc2, hf2⟩ := keep hB2; have hz2 := hB2.size; try simp at hz2
  go_wp2_with fail
  refine (HRT _).mono ?_; rintro e w3 ⟨rfl, hB3⟩; obtain ⟨hc3, hf3⟩ := keep hB3; have hz3 := hB3.size; try simp at hz3
  go_wp2_with fail
  have hBB : Below w.heap.size w w3 := by (repeat' (first | (with_reducible exact Below.refl _ _) | (with_reducible assumption) | (with_reducible refine Below.alloc ?_ ?_ _) | (with_reducible refine Below.drew ?_) | (with_reducible refine drewN_below ?_ _) | (with_reducible refine Below.setCell ?_ ?_ _) | (with_reducible refine below_call (by with_reducible assumption) ?_ ?_) | (first | (with_reducible exact Nat.le_refl _) | (with_reducible assumption) | omega | (simp; done) | (simp; omega))))
  (refine wp_region_text (by kernel_rfl) (by kernel_rfl) ?_; (repeat (first | (refine step_val (v := ?_) (by rfl) ?_ ?_; rotate_left; (· (intro z hz; obtain ⟨hc, hf⟩ := keep hz; go_simp; first | done | (with_reducible rfl))); (try simp only [Act.put, List.setIfInBounds_toArray, List.set_cons_zero, List.set_cons_succ])) | (refine step_skip (by rfl) ?_; (try simp only [Act.put, List.setIfInBounds_toArray, List.set_cons_zero, List.set_cons_succ])) | (refine step_call (v := ?_) (f := ?_) (args := ?_) (by rfl) ?_ ?_ ?_; rotate_left; rotate_left; rotate_left; (· (intro z hz; go_simp; first | done | (with_reducible rfl) | (constructor <;> with_reducible rfl))); (· (intro z hz; first | (go_at_call 14; refine (HM _).mono ?_; rintro e w' ⟨rfl, hB⟩; refine ⟨?_, hz.trans (hB.mono hz.size)⟩; with_reducible rfl) | (go_at_call 21; refine (lu_any _ _ _).mono ?_; rintro e w' ⟨rfl, hB⟩; refine ⟨?_, hz.trans (hB.mono hz.size)⟩; with_reducible rfl) | (go_at_call 26; refine (HRM _).mono ?_; rintro e w' ⟨rfl, hB⟩; refine ⟨?_, hz.trans (hB.mono hz.size)⟩; with_reducible rfl) | (go_at_call 11; refine (HS _).mono ?_; rintro e w' ⟨rfl, hB⟩; refine ⟨?_, hz.trans (hB.mono hz.size)⟩; with_reducible rfl) | (go_at_call 27; refine (HRS _).mono ?_; rintro e w' ⟨rfl, hB⟩; refine ⟨?_, hz.trans (hB.mono hz.size)⟩; with_reducible rfl) | (go_at_call 18; refine (lw_any _ _ _).mono ?_; rintro e w' ⟨rfl, hB⟩; refine ⟨?_, hz.trans (hB.mono hz.size)⟩; with_reducible rfl) | (go_at_call 19; refine (HC _).mono ?_; rintro e w' ⟨rfl, hB⟩; refine ⟨?_, hz.trans (hB.mono hz.size)⟩; with_reducible rfl) | (go_at_call 28; refine (HRC _).mono ?_; rintro e w' ⟨rfl, hB⟩; refine ⟨?_, hz.trans (hB.mono hz.size)⟩; with_reducible rfl) | (go_at_call 15; refine (awake1_any _ (htab.below (by (repeat' (first | (with_reducible exact Below.refl _ _) | (with_reducible assumption) | (with_reducible refine Below.alloc ?_ ?_ _) | (with_reducible refine Below.drew ?_) | (with_reducible refine drewN_below ?_ _) | (with_reducible refine Below.setCell ?_ ?_ _) | (with_reducible refine below_call (by with_reducible assumption) ?_ ?_) | (first | (with_reducible exact Nat.le_refl _) | (with_reducible assumption) | omega | (simp; done) | (simp; omega))))))).mono ?_; rintro e w' ⟨rfl, hB⟩; refine ⟨?_, hz.trans (hB.mono hz.size)⟩; with_reducible rfl))); (try simp only [Act.put, List.setIfInBounds_toArray, List.set_cons_zero, List.set_cons_succ])))); refine steps_end ?_; intro w' hB; obtain ⟨hc, hf⟩ := keep hB; have hz := hB.size; try simp at hz)
  go_wp2
  go_ret
  exact ⟨rfl, by (repeat' (first | (with_reducible exact Below.refl _ _) | (with_reducible assumption) | (with_reducible refine Below.alloc ?_ ?_ _) | (with_reducible refine Below.drew ?_) | (with_reducible refine drewN_below ?_ _) | (with_reducible refine Below.setCell ?_ ?_ _) | (with_reducible refine below_call (by with_reducible assumption) ?_ ?_) | (first | (with_reducible exact Nat.le_refl _) | (with_reducible assumption) | omega | (simp; done) | (simp; omega))))⟩

set_option maxRecDepth 100000 in
theorem times_lifted (os : Os) (started : os.Started) (H : Type) (enc : TypeId × Value → H) :
    ReturnsInHanded {} Tryd.checked os 8 .any (fun w args => (Rows.wideTimesSpec.pre enc Tryd.prog Tryd.f8 [] false w args ∧ laidMet Tryd.prog laidL w) ∧ sizedMet enc Tryd.prog Tryd.f8 (OpenSpec.ofChange Rows.wideTimesSpec) false w args) (Rows.wideTimesSpec.post enc Tryd.prog Tryd.f8 false true false false) := by
  refine returnsInHanded_of_change_and (C := Tryd.checked) (X := fun w _ => laidMet Tryd.prog laidL w) (fun _ _ _ hh h => laid_heap hh h) own started (by kernel_rfl) Tryd.func8
    (ChangeSpec.witness_at (enc := enc) (C := Tryd.checked) (os := os) (X := fun w _ => laidMet Tryd.prog laidL w) false (laidWorld os) #[.int .u64 0, .int .u64 0, .int .u64 0, .int .u64 0, .int .u64 0, .int .u64 0, .int .i64 0] 8 rfl (by kernel_rfl) (by kernel_rfl) (by kernel_rfl) (by kernel_rfl) (by kernel_rfl) (laidWorld_met os _)) ?_
  intro W base args ds gs before hval0 hW _ _ hL _
  have hval : ∀ (j : Nat) t v, Tryd.f8.params[j]? = some t → args[j]? = some v → Value.okWide Tryd.prog W .any base t v := hval0
  have hT := tab_of_laid hL
  have hW' := hW
  obtain ⟨p, q, hA0, hV, rfl, _, _⟩ := hW
  have hA : DataW.TrodAll enc Tryd.prog W 0 (fun _ => true) true Tryd.f8.params.toList args.toList ds p := hA0
  rw [Tryd.params8] at hA hval
  obtain ⟨v0, vs0, d0, ds0, p0, q0, hargs, rfl, rfl, h0, r0⟩ := trodAll_cons hA
  obtain ⟨v1, vs1, d1, ds1, p1, q1, rfl, rfl, rfl, h1, r1⟩ := trodAll_cons r0
  obtain ⟨v2, vs2, d2, ds2, p2, q2, rfl, rfl, rfl, h2, r2⟩ := trodAll_cons r1
  obtain ⟨v3, vs3, d3, ds3, p3, q3, rfl, rfl, rfl, h3, r3⟩ := trodAll_cons r2
  obtain ⟨v4, vs4, d4, ds4, p4, q4, rfl, rfl, rfl, h4, r4⟩ := trodAll_cons r3
  obtain ⟨v5, vs5, d5, ds5, p5, q5, rfl, rfl, rfl, h5, r5⟩ := trodAll_cons r4
  obtain ⟨v6, vs6, d6, ds6, p6, q6, rfl, rfl, rfl, h6, r6⟩ := trodAll_cons r5
  obtain ⟨rfl, rfl, rfl⟩ := trodAll_nil r6
  obtain rfl : args = #[v0, v1, v2, v3, v4, v5, v6] := by cases args; simp_all
  obtain ⟨rfl, rfl⟩ := trodVars_none hV
  obtain ⟨x0a, rfl, rfl, rfl, wx0a⟩ := open_int Tryd.underlying22 (hval 0 22 v0 rfl rfl) h0
  obtain ⟨x1a, rfl, rfl, rfl, wx1a⟩ := open_int Tryd.underlying22 (hval 1 22 v1 rfl rfl) h1
  obtain ⟨x2a, rfl, rfl, rfl, wx2a⟩ := open_int Tryd.underlying22 (hval 2 22 v2 rfl rfl) h2
  obtain ⟨x3a, rfl, rfl, rfl, wx3a⟩ := open_int Tryd.underlying22 (hval 3 22 v3 rfl rfl) h3
  obtain ⟨x4a, rfl, rfl, rfl, wx4a⟩ := open_int Tryd.underlying22 (hval 4 22 v4 rfl rfl) h4
  obtain ⟨x5a, rfl, rfl, rfl, wx5a⟩ := open_int Tryd.underlying22 (hval 5 22 v5 rfl rfl) h5
  obtain ⟨x6a, rfl, rfl, rfl, wx6a⟩ := open_int Tryd.underlying3 (hval 6 3 v6 rfl rfl) h6
  refine (times_walk _ _ _ _ _ _ _ (word_of_wf wx0a) (word_of_wf wx1a) (word_of_wf wx2a) (word_of_wf wx3a) (word_of_wf wx4a) (word_of_wf wx5a) (int64_of_wf wx6a) W hT).mono fun e W' ⟨he, hb⟩ => ?_
  subst he
  exact ⟨_, rfl, post_true laidOut (by kernel_rfl) rfl hW' hb (trodAll_mk1 (shut_bool Tryd.underlying4 _)) rfl rfl⟩

theorem times_holds : Rows.WideTimesSaid :=
  OpenClaim.holds_of_wide 8 Tryd.f8 rfl rfl rfl rfl rfl rfl rfl ⟨rfl, rfl, rfl, rfl, rfl⟩ rfl rfl rfl rfl rfl (by kernel_rfl) Tryd.func8 (by kernel_rfl)
    (of_decide_eq_true (by kernel_rfl)) (by unfold Func.isWrapper; rw [if_neg (of_decide_eq_false (by kernel_rfl))]; exact ⟨rfl, rfl⟩)
    (fun os started H enc _ => times_lifted os started H enc)

theorem times_card : Rows.WideTimesCardSaid :=
  Claim7.holds_tied_plain_at .later [] [.data, .data, .data] true (true, "4a14bf82196382be670ee67696ed6504ac63f053d7b56463f2dc3046ea5a8924") false
    times_holds (fun _ h => by cases h) (by kernel_rfl) (fun _ h => by cases h) wideTimes_row_tie rfl ⟨rfl, rfl⟩ (by kernel_rfl) rfl
    (fun f fn hf hfn => by
      obtain rfl : f = 8 := Option.some.inj ((show Tryd.prog.funcNamed "pergola/pergolalaw1.WideTimes" = some 8 by kernel_rfl).symm.trans hf) |>.symm
      obtain rfl : fn = Tryd.f8 := (Option.some.inj (Tryd.func8.symm.trans hfn)).symm
      refine ⟨by kernel_rfl, fun j t ht => ?_⟩
      have hall : (Tryd.f8.params.toList.all fun t => !(Tryd.prog.wantsStandIn t)) = true := by kernel_rfl
      have := List.all_eq_true.1 hall t (by simpa using Array.mem_of_getElem? ht)
      exact (by simpa using this : Tryd.prog.wantsStandIn t = false))
    (by kernel_rfl)
#print axioms times_card
end Go.Proofs.YtpmnghobcciiaaaDoor
