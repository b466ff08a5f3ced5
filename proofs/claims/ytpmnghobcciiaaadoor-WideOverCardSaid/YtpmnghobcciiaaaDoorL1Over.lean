/- WideOver: a product of a sum is the sum of the products, word for word. For every three words; no condition. -/
import Derived.Test.YtpmnghobcciiaaaDoorL1Awake
import Derived.Test.YtpmnghobcciiaaaDoorTied
import Derived.Test.YtpmnghobcciiaaaDoorTie
import Derived.Test.YtpmnghobcciiaaaDoorCards
import Derived.Laws.BitsAllLaws
namespace Go.Proofs.YtpmnghobcciiaaaDoor
open Go.ChangeShapes Go.WideShapes Go.ChangeAt Go.RowKit

theorem xor_max (b : Nat) (hb : b < 18446744073709551616) : 18446744073709551615 ^^^ b = 18446744073709551615 - b := by
  have h : (BitVec.allOnes 64 ^^^ BitVec.ofNat 64 b).toNat = (~~~ (BitVec.ofNat 64 b)).toNat := by rw [BitVec.allOnes_xor]
  rw [BitVec.toNat_xor, BitVec.toNat_not, BitVec.toNat_allOnes, BitVec.toNat_ofNat, Nat.mod_eq_of_lt (by omega)] at h
  exact h
theorem not_word {b : Int} (hb : Word b) : bits .xor .u64 IntKind.u64.max b = 18446744073709551615 - b := by
  obtain ⟨b, rfl⟩ := Int.eq_ofNat_of_zero_le hb.1
  have hb' : b < 18446744073709551616 := by unfold Word at hb; omega
  rw [show IntKind.u64.max = ((18446744073709551615 : Nat) : Int) from rfl, u64_xor_nat _ _ (by omega) hb', xor_max b hb']
  omega

set_option maxHeartbeats 2000000 in
theorem over_high (a b c : Int) (ha : Word a) (hb : Word b) (hc' : Word c) (h : 18446744073709551616 ≤ a + b) (w : World) (htab : Tab w) :
    Calls Tryd.prog 4 #[.int .u64 a, .int .u64 b, .int .u64 c] w fun e w' => e = .returned (.bool true) ∧ Below w.heap.size w w' := by
  have HM := fun w => wmul_any a c ha hc' w
  have HN := fun w => wmul_any b c hb hc' w
  have HA := fun w => wadd_any (hiOf (a * c)) (loOf (a * c)) (hiOf (b * c)) (loOf (b * c)) (hiOf_word _) (loOf_word _) (hiOf_word _) (loOf_word _) w
  generalize num (hiOf (a * c)) (loOf (a * c)) + num (hiOf (b * c)) (loOf (b * c)) = s at *
  generalize hiOf (a * c) = a1 at *
  generalize loOf (a * c) = a0 at *
  generalize hiOf (b * c) = b1 at *
  generalize loOf (b * c) = b0 at *
  have hx := not_word hb
  have hx2 : bits .xor .u64 (if IntKind.u64.signed = true then -1 else IntKind.u64.max) b = 18446744073709551615 - b := hx
  obtain ⟨a2, a3⟩ := ha; obtain ⟨b2, b3⟩ := hb; obtain ⟨c2, c3⟩ := hc'
  go_enter Tryd.func4, Tryd.ntmps4
  go_wp2_with fail
  refine (HM _).mono ?_; rintro e w1 ⟨rfl, hB1⟩; obtain ⟨hc1, hf1⟩ := keep hB1; have hz1 := hB1.size; try simp at hz1
  go_wp2_with fail
  refine (HN _).mono ?_; rintro e w2 ⟨rfl, hB2⟩; obtain ⟨hc2, hf2⟩ := keep hB2; have hz2 := hB2.size; try simp at hz2
  go_wp2_with fail
  refine (HA _).mono ?_; rintro e w3 ⟨rfl, hB3⟩; obtain ⟨hc3, hf3⟩ := keep hB3; have hz3 := hB3.size; try simp at hz3
  go_wp2_with fail
  refine (awake1_any _ (htab.below (by (repeat' (first | (with_reducible exact Below.refl _ _) | (with_reducible assumption) | (with_reducible refine Below.alloc ?_ ?_ _) | (with_reducible refine Below.drew ?_) | (with_reducible refine drewN_below ?_ _) | (with_reducible refine Below.setCell ?_ ?_ _) | (with_reducible refine below_call (by with_reducible assumption) ?_ ?_) | (first | (with_reducible exact Nat.le_refl _) | (with_reducible assumption) | omega | (simp; done) | (simp; omega))))))).mono ?_; rintro e w4 ⟨rfl, hB4⟩; obtain ⟨hc4, hf4⟩ := keep hB4; have hz4 := hB4.size; try simp at hz4
  go_wp2
  go_ret
  exact ⟨rfl, by (repeat' (first | (with_reducible exact Below.refl _ _) | (with_reducible assumption) | (with_reducible refine Below.alloc ?_ ?_ _) | (with_reducible refine Below.drew ?_) | (with_reducible refine drewN_below ?_ _) | (with_reducible refine Below.setCell ?_ ?_ _) | (with_reducible refine below_call (by with_reducible assumption) ?_ ?_) | (first | (with_reducible exact Nat.le_refl _) | (with_reducible assumption) | omega | (simp; done) | (simp; omega))))⟩

set_option maxHeartbeats 4000000 in
theorem over_low (a b c : Int) (ha : Word a) (hb : Word b) (hc' : Word c) (h : a + b < 18446744073709551616) (w : World) (htab : Tab w) :
    Calls Tryd.prog 4 #[.int .u64 a, .int .u64 b, .int .u64 c] w fun e w' => e = .returned (.bool true) ∧ Below w.heap.size w w' := by
  have hs : Word (a + b) := by unfold Word at *; omega
  have hsb := mul_word_big hs hc'
  have hadd : a * c + b * c = (a + b) * c := (Int.add_mul a b c).symm
  have hov : overB ((a + b) * c) = false := by unfold overB; unfold Big at hsb; simp; omega
  have htop : topOf ((a + b) * c) = 0 := by unfold topOf; unfold Big at hsb; omega
  have hn0 : num 0 (a + b) = a + b := by unfold num; omega
  have HM := fun w => wmul_any a c ha hc' w
  have HN := fun w => wmul_any b c hb hc' w
  have HA := fun w => wadd_any (hiOf (a * c)) (loOf (a * c)) (hiOf (b * c)) (loOf (b * c)) (hiOf_word _) (loOf_word _) (hiOf_word _) (loOf_word _) w
  rw [num_hl (mul_word_big ha hc'), num_hl (mul_word_big hb hc'), hadd, hov] at HA
  have HT := fun w => wtimes_any 0 (a + b) c (by unfold Word; omega) hs hc' w
  rw [hn0, htop] at HT
  have HX : ∀ x y, (x = a + b ∧ y = c) ∨ (x = c ∧ y = a + b) → ∀ w, Calls Tryd.prog 14 #[.int .u64 x, .int .u64 y] w fun e w' => e = .returned (.agg #[.int .u64 (hiOf ((a + b) * c)), .int .u64 (loOf ((a + b) * c))]) ∧ Below w.heap.size w w' := by
    intro x y hxy w
    rcases hxy with ⟨rfl, rfl⟩ | ⟨rfl, rfl⟩
    · exact wmul_any _ _ hs hc' w
    · rw [Int.mul_comm (a + b) x]; exact wmul_any _ _ hc' hs w
  have hw : IntKind.u64.wrap (a + b) = a + b := by rw [IntKind.wrap_u64]; unfold Word at hs; omega
  have hx := not_word hb
  have hx2 : bits .xor .u64 (if IntKind.u64.signed = true then -1 else IntKind.u64.max) b = 18446744073709551615 - b := hx
  have hg : ¬ 18446744073709551615 - b < a := by omega
  generalize hiOf ((a + b) * c) = s1 at *
  generalize loOf ((a + b) * c) = s0 at *
  generalize hiOf (a * c) = a1 at *
  generalize loOf (a * c) = a0 at *
  generalize hiOf (b * c) = b1 at *
  generalize loOf (b * c) = b0 at *
  obtain ⟨a2, a3⟩ := ha; obtain ⟨b2, b3⟩ := hb; obtain ⟨c2, c3⟩ := hc'
  clear hs hsb hadd hov htop hn0
  go_enter Tryd.func4, Tryd.ntmps4
  go_wp2_with fail
  refine (HM _).mono ?_; rintro e w1 ⟨rfl, hB1⟩; obtain ⟨hc1, hf1⟩ := keep hB1; have hz1 := hB1.size; try simp at hz1
  go_wp2_with fail
  refine (HN _).mono ?_; rintro e w2 ⟨rfl, hB2⟩; obtain ⟨hc2, hf2⟩ := keep hB2; have hz2 := hB2.size; try simp at hz2
  go_wp2_with fail
  refine (HA _).mono ?_; rintro e w3 ⟨rfl, hB3⟩; obtain ⟨hc3, hf3⟩ := keep hB3; have hz3 := hB3.size; try simp at hz3
  go_wp2_with fail
  refine (lw_any _ _ _).mono ?_; rintro e w4 ⟨rfl, hB4⟩; obtain ⟨hc4, hf4⟩ := keep hB4; have hz4 := hB4.size; try simp at hz4
  go_wp2_with fail
  refine (HT _).mono ?_; rintro e w5 ⟨rfl, hB5⟩; obtain ⟨hc5, hf5⟩ := keep hB5; have hz5 := hB5.size; try simp at hz5
  go_wp2_with fail
  (refine wp_region_text (by kernel_rfl) (by kernel_rfl) ?_; (repeat (first | (refine step_val (v := ?_) (by rfl) ?_ ?_; rotate_left; (· (intro z hz; obtain ⟨hc, hf⟩ := keep hz; go_simp; first | done | (with_reducible rfl))); (try simp only [Act.put, List.setIfInBounds_toArray, List.set_cons_zero, List.set_cons_succ])) | (refine step_skip (by rfl) ?_; (try simp only [Act.put, List.setIfInBounds_toArray, List.set_cons_zero, List.set_cons_succ])) | (refine step_call (v := ?_) (f := ?_) (args := ?_) (by rfl) ?_ ?_ ?_; rotate_left; rotate_left; rotate_left; (· (intro z hz; go_simp; first | done | (with_reducible rfl) | (constructor <;> with_reducible rfl))); (· (intro z hz; first | (go_at_call 14; refine (HX _ _ (by simp) _).mono ?_; rintro e w' ⟨rfl, hB⟩; refine ⟨?_, hz.trans (hB.mono hz.size)⟩; with_reducible rfl) | (go_at_call 15; refine (awake1_any _ (htab.below (by (repeat' (first | (with_reducible exact Below.refl _ _) | (with_reducible assumption) | (with_reducible refine Below.alloc ?_ ?_ _) | (with_reducible refine Below.drew ?_) | (with_reducible refine drewN_below ?_ _) | (with_reducible refine Below.setCell ?_ ?_ _) | (with_reducible refine below_call (by with_reducible assumption) ?_ ?_) | (first | (with_reducible exact Nat.le_refl _) | (with_reducible assumption) | omega | (simp; done) | (simp; omega))))))).mono ?_; rintro e w' ⟨rfl, hB⟩; refine ⟨?_, hz.trans (hB.mono hz.size)⟩; with_reducible rfl))); (try simp only [Act.put, List.setIfInBounds_toArray, List.set_cons_zero, List.set_cons_succ])))); refine steps_end ?_; intro w' hB; obtain ⟨hc, hf⟩ := keep hB; have hz := hB.size; try simp at hz)
  go_wp2
  go_ret
  exact ⟨rfl, by (repeat' (first | (with_reducible exact Below.refl _ _) | (with_reducible assumption) | (with_reducible refine Below.alloc ?_ ?_ _) | (with_reducible refine Below.drew ?_) | (with_reducible refine drewN_below ?_ _) | (with_reducible refine Below.setCell ?_ ?_ _) | (with_reducible refine below_call (by with_reducible assumption) ?_ ?_) | (first | (with_reducible exact Nat.le_refl _) | (with_reducible assumption) | omega | (simp; done) | (simp; omega))))⟩

theorem over_walk (a b c : Int) (ha : Word a) (hb : Word b) (hc' : Word c) (w : World) (htab : Tab w) :
    Calls Tryd.prog 4 #[.int .u64 a, .int .u64 b, .int .u64 c] w fun e w' => e = .returned (.bool true) ∧ Below w.heap.size w w' := by
  by_cases h : a + b < 18446744073709551616
  · exact over_low a b c ha hb hc' h w htab
  · exact over_high a b c ha hb hc' (by omega) w htab

set_option maxRecDepth 100000 in
theorem over_lifted (os : Os) (started : os.Started) (H : Type) (enc : TypeId × Value → H) :
    ReturnsInHanded {} Tryd.checked os 4 .any (fun w args => (Rows.wideOverSpec.pre enc Tryd.prog Tryd.f4 [] false w args ∧ laidMet Tryd.prog laidL w) ∧ sizedMet enc Tryd.prog Tryd.f4 (OpenSpec.ofChange Rows.wideOverSpec) false w args) (Rows.wideOverSpec.post enc Tryd.prog Tryd.f4 false true false false) := by
  refine returnsInHanded_of_change_and (C := Tryd.checked) (X := fun w _ => laidMet Tryd.prog laidL w) (fun _ _ _ hh h => laid_heap hh h) own started (by kernel_rfl) Tryd.func4
    (ChangeSpec.witness_at (enc := enc) (C := Tryd.checked) (os := os) (X := fun w _ => laidMet Tryd.prog laidL w) false (laidWorld os) #[.int .u64 0, .int .u64 0, .int .u64 0] 8 rfl (by kernel_rfl) (by kernel_rfl) (by kernel_rfl) (by kernel_rfl) (by kernel_rfl) (laidWorld_met os _)) ?_
  intro W base args ds gs before hval0 hW _ _ hL _
  have hval : ∀ (j : Nat) t v, Tryd.f4.params[j]? = some t → args[j]? = some v → Value.okWide Tryd.prog W .any base t v := hval0
  have hT := tab_of_laid hL
  have hW' := hW
  obtain ⟨p, q, hA0, hV, rfl, _, _⟩ := hW
  have hA : DataW.TrodAll enc Tryd.prog W 0 (fun _ => true) true Tryd.f4.params.toList args.toList ds p := hA0
  rw [Tryd.params4] at hA hval
  obtain ⟨v0, vs0, d0, ds0, p0, q0, hargs, rfl, rfl, h0, r0⟩ := trodAll_cons hA
  obtain ⟨v1, vs1, d1, ds1, p1, q1, rfl, rfl, rfl, h1, r1⟩ := trodAll_cons r0
  obtain ⟨v2, vs2, d2, ds2, p2, q2, rfl, rfl, rfl, h2, r2⟩ := trodAll_cons r1
  obtain ⟨rfl, rfl, rfl⟩ := trodAll_nil r2
  obtain rfl : args = #[v0, v1, v2] := by cases args; simp_all
  obtain ⟨rfl, rfl⟩ := trodVars_none hV
  obtain ⟨x0a, rfl, rfl, rfl, wx0a⟩ := open_int Tryd.underlying22 (hval 0 22 v0 rfl rfl) h0
  obtain ⟨x1a, rfl, rfl, rfl, wx1a⟩ := open_int Tryd.underlying22 (hval 1 22 v1 rfl rfl) h1
  obtain ⟨x2a, rfl, rfl, rfl, wx2a⟩ := open_int Tryd.underlying22 (hval 2 22 v2 rfl rfl) h2
  refine (over_walk _ _ _ (word_of_wf wx0a) (word_of_wf wx1a) (word_of_wf wx2a) W hT).mono fun e W' ⟨he, hb⟩ => ?_
  subst he
  exact ⟨_, rfl, post_true laidOut (by kernel_rfl) rfl hW' hb (trodAll_mk1 (shut_bool Tryd.underlying4 _)) rfl rfl⟩

theorem over_holds : Rows.WideOverSaid :=
  OpenClaim.holds_of_wide 4 Tryd.f4 rfl rfl rfl rfl rfl rfl rfl ⟨rfl, rfl, rfl, rfl, rfl⟩ rfl rfl rfl rfl rfl (by kernel_rfl) Tryd.func4 (by kernel_rfl)
    (of_decide_eq_true (by kernel_rfl)) (by unfold Func.isWrapper; rw [if_neg (of_decide_eq_false (by kernel_rfl))]; exact ⟨rfl, rfl⟩)
    (fun os started H enc _ => over_lifted os started H enc)

theorem over_card : Rows.WideOverCardSaid :=
  Claim7.holds_tied_plain_at .later [] [.data, .data, .data] true (true, "4a14bf82196382be670ee67696ed6504ac63f053d7b56463f2dc3046ea5a8924") false
    over_holds (fun _ h => by cases h) (by kernel_rfl) (fun _ h => by cases h) wideOver_row_tie rfl ⟨rfl, rfl⟩ (by kernel_rfl) rfl
    (fun f fn hf hfn => by
      obtain rfl : f = 4 := Option.some.inj ((show Tryd.prog.funcNamed "pergola/pergolalaw1.WideOver" = some 4 by kernel_rfl).symm.trans hf) |>.symm
      obtain rfl : fn = Tryd.f4 := (Option.some.inj (Tryd.func4.symm.trans hfn)).symm
      refine ⟨by kernel_rfl, fun j t ht => ?_⟩
      have hall : (Tryd.f4.params.toList.all fun t => !(Tryd.prog.wantsStandIn t)) = true := by kernel_rfl
      have := List.all_eq_true.1 hall t (by simpa using Array.mem_of_getElem? ht)
      exact (by simpa using this : Tryd.prog.wantsStandIn t = false))
    (by kernel_rfl)
#print axioms over_card
end Go.Proofs.YtpmnghobcciiaaaDoor
