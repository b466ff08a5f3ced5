/- WideSquares: a square is that of the number without its sign, and is in order with it. For every two numbers; no condition. -/
import Derived.Test.YtpmnghobcciiaaaDoorL1Awake
import Derived.Test.YtpmnghobcciiaaaDoorTied
import Derived.Test.YtpmnghobcciiaaaDoorTie
import Derived.Test.YtpmnghobcciiaaaDoorCards
namespace Go.Proofs.YtpmnghobcciiaaaDoor
open Go.ChangeShapes Go.WideShapes Go.ChangeAt Go.RowKit

theorem sq_lt {x y : Int} (hx : 0 ≤ x) (h : x < y) : x * x < y * y := by
  have h1 : x * x ≤ x * y := Int.mul_le_mul_of_nonneg_left (by omega) hx
  have h2 : x * y < y * y := Int.mul_lt_mul_of_pos_right h (by omega)
  omega
theorem big_sq {n : Int} (hn : Int64 n) : num (hiOf (n * n)) (loOf (n * n)) = n * n := num_hl (by have := sq_big hn; unfold Big; omega)

set_option maxHeartbeats 2000000 in
theorem sq_core (n m K : Int) (hn : Int64 n) (hm : Int64 m) (hK : cmpV (n * n) (m * m) = K) (h1 : decide (K < 0) = decide (absI n < absI m)) (h2 : (K == 0) = (absI n == absI m)) (w : World) (htab : Tab w) :
    Calls Tryd.prog 3 #[.int .i64 n, .int .i64 m] w fun e w' => e = .returned (.bool true) ∧ Below w.heap.size w w' := by
  have HC := fun w => wcompare_any (hiOf (n * n)) (loOf (n * n)) (hiOf (m * m)) (loOf (m * m)) (loOf_word _) (loOf_word _) w
  rw [big_sq hn, big_sq hm, hK] at HC
  have HM := fun w => wmul_any (absI n) (absI n) (absI_word hn) (absI_word hn) w
  rw [absI_mul] at HM
  have HA := fun w => rabs_any n hn w
  have HB := fun w => rabs_any m hm w
  have HS := fun w => wsquare_any n hn w
  have HT := fun w => wsquare_any m hm w
  generalize absI n = x at *
  generalize absI m = y at *
  generalize hiOf (n * n) = a1 at *
  generalize loOf (n * n) = a0 at *
  generalize hiOf (m * m) = b1 at *
  generalize loOf (m * m) = b0 at *
  clear hK hn hm
  go_enter Tryd.func3, Tryd.ntmps3
  go_wp2_with fail
  refine (HS _).mono ?_; rintro e w1 ⟨rfl, hB1⟩; obtain ⟨hc1, hf1⟩ := keep hB1; have hz1 := hB1.size; try simp at hz1
  go_wp2_with fail
  refine (HT _).mono ?_; rintro e w2 ⟨rfl, hB2⟩; obtain ⟨hc2, hf2⟩ := keep hB2; have hz2 := hB2.size; try simp at hz2
  go_wp2_with fail
  refine (HC _).mono ?_; rintro e w3 ⟨rfl, hB3⟩; obtain ⟨hc3, hf3⟩ := keep hB3; have hz3 := hB3.size; try simp at hz3
  go_wp2_with fail
  refine (HA _).mono ?_; rintro e w4 ⟨rfl, rfl⟩
  go_wp2_with fail
  refine (HB _).mono ?_; rintro e w5 ⟨rfl, rfl⟩
  go_wp2_with fail
  (refine wp_region_text (by kernel_rfl) (by kernel_rfl) ?_; (repeat (first | (refine step_val (v := ?_) (by rfl) ?_ ?_; rotate_left; (· (intro z hz; obtain ⟨hc, hf⟩ := keep hz; go_simp; first | done | (with_reducible rfl))); (try simp only [Act.put, List.setIfInBounds_toArray, List.set_cons_zero, List.set_cons_succ])) | (refine step_skip (by rfl) ?_; (try simp only [Act.put, List.setIfInBounds_toArray, List.set_cons_zero, List.set_cons_succ])) | (refine step_call (v := ?_) (f := ?_) (args := ?_) (by rfl) ?_ ?_ ?_; rotate_left; rotate_left; rotate_left; (· (intro z hz; go_simp; first | done | (with_reducible rfl) | (constructor <;> with_reducible rfl))); (· (intro z hz; first | (go_at_call 14; refine (HM _).mono ?_; rintro e w' ⟨rfl, hB⟩; refine ⟨?_, hz.trans (hB.mono hz.size)⟩; with_reducible rfl) | (go_at_call 15; refine (awake1_any _ (htab.below (by (repeat' (first | (with_reducible exact Below.refl _ _) | (with_reducible assumption) | (with_reducible refine Below.alloc ?_ ?_ _) | (with_reducible refine Below.drew ?_) | (with_reducible refine drewN_below ?_ _) | (with_reducible refine Below.setCell ?_ ?_ _) | (with_reducible refine below_call (by with_reducible assumption) ?_ ?_) | (first | (with_reducible exact Nat.le_refl _) | (with_reducible assumption) | omega | (simp; done) | (simp; omega))))))).mono ?_; rintro e w' ⟨rfl, hB⟩; refine ⟨?_, hz.trans (hB.mono hz.size)⟩; with_reducible rfl))); (try simp only [Act.put, List.setIfInBounds_toArray, List.set_cons_zero, List.set_cons_succ])))); refine steps_end ?_; intro w' hB; obtain ⟨hc, hf⟩ := keep hB; have hz := hB.size; try simp at hz)
  go_wp2
  go_ret
  exact ⟨rfl, by (repeat' (first | (with_reducible exact Below.refl _ _) | (with_reducible assumption) | (with_reducible refine Below.alloc ?_ ?_ _) | (with_reducible refine Below.drew ?_) | (with_reducible refine drewN_below ?_ _) | (with_reducible refine Below.setCell ?_ ?_ _) | (with_reducible refine below_call (by with_reducible assumption) ?_ ?_) | (first | (with_reducible exact Nat.le_refl _) | (with_reducible assumption) | omega | (simp; done) | (simp; omega))))⟩

theorem squares_walk (n m : Int) (hn : Int64 n) (hm : Int64 m) (w : World) (htab : Tab w) :
    Calls Tryd.prog 3 #[.int .i64 n, .int .i64 m] w fun e w' => e = .returned (.bool true) ∧ Below w.heap.size w w' := by
  have x0 := (absI_word hn).1
  have y0 := (absI_word hm).1
  have ex := absI_mul n
  have ey := absI_mul m
  rcases Int.lt_trichotomy (absI n) (absI m) with h | h | h
  · have := sq_lt x0 h
    refine sq_core n m (-1) hn hm (by unfold cmpV; rw [if_pos (by omega)]) (by simp [h]) ?_ w htab
    rw [beq_eq_false_iff_ne.2 (by omega : absI n ≠ absI m)]; rfl
  · have : n * n = m * m := by rw [← ex, ← ey, h]
    refine sq_core n m 0 hn hm (by unfold cmpV; rw [if_neg (by omega), if_neg (by omega)]) (by simp [h]) ?_ w htab
    rw [beq_iff_eq.2 h]; rfl
  · have := sq_lt y0 h
    refine sq_core n m 1 hn hm (by unfold cmpV; rw [if_neg (by omega), if_pos (by omega)]) (by simp; omega) ?_ w htab
    rw [beq_eq_false_iff_ne.2 (by omega : absI n ≠ absI m)]; rfl

set_option maxRecDepth 100000 in
theorem squares_lifted (os : Os) (started : os.Started) (H : Type) (enc : TypeId × Value → H) :
    ReturnsInHanded {} Tryd.checked os 3 .any (fun w args => (Rows.wideSquaresSpec.pre enc Tryd.prog Tryd.f3 [] false w args ∧ laidMet Tryd.prog laidL w) ∧ sizedMet enc Tryd.prog Tryd.f3 (OpenSpec.ofChange Rows.wideSquaresSpec) false w args) (Rows.wideSquaresSpec.post enc Tryd.prog Tryd.f3 false true false false) := by
  refine returnsInHanded_of_change_and (C := Tryd.checked) (X := fun w _ => laidMet Tryd.prog laidL w) (fun _ _ _ hh h => laid_heap hh h) own started (by kernel_rfl) Tryd.func3
    (ChangeSpec.witness_at (enc := enc) (C := Tryd.checked) (os := os) (X := fun w _ => laidMet Tryd.prog laidL w) false (laidWorld os) #[.int .i64 0, .int .i64 0] 8 rfl (by kernel_rfl) (by kernel_rfl) (by kernel_rfl) (by kernel_rfl) (by kernel_rfl) (laidWorld_met os _)) ?_
  intro W base args ds gs before hval0 hW _ _ hL _
  have hval : ∀ (j : Nat) t v, Tryd.f3.params[j]? = some t → args[j]? = some v → Value.okWide Tryd.prog W .any base t v := hval0
  have hT := tab_of_laid hL
  have hW' := hW
  obtain ⟨p, q, hA0, hV, rfl, _, _⟩ := hW
  have hA : DataW.TrodAll enc Tryd.prog W 0 (fun _ => true) true Tryd.f3.params.toList args.toList ds p := hA0
  rw [Tryd.params3] at hA hval
  obtain ⟨v0, vs0, d0, ds0, p0, q0, hargs, rfl, rfl, h0, r0⟩ := trodAll_cons hA
  obtain ⟨v1, vs1, d1, ds1, p1, q1, rfl, rfl, rfl, h1, r1⟩ := trodAll_cons r0
  obtain ⟨rfl, rfl, rfl⟩ := trodAll_nil r1
  obtain rfl : args = #[v0, v1] := by cases args; simp_all
  obtain ⟨rfl, rfl⟩ := trodVars_none hV
  obtain ⟨x0a, rfl, rfl, rfl, wx0a⟩ := open_int Tryd.underlying3 (hval 0 3 v0 rfl rfl) h0
  obtain ⟨x1a, rfl, rfl, rfl, wx1a⟩ := open_int Tryd.underlying3 (hval 1 3 v1 rfl rfl) h1
  refine (squares_walk _ _ (int64_of_wf wx0a) (int64_of_wf wx1a) W hT).mono fun e W' ⟨he, hb⟩ => ?_
  subst he
  exact ⟨_, rfl, post_true laidOut (by kernel_rfl) rfl hW' hb (trodAll_mk1 (shut_bool Tryd.underlying4 _)) rfl rfl⟩

theorem squares_holds : Rows.WideSquaresSaid :=
  OpenClaim.holds_of_wide 3 Tryd.f3 rfl rfl rfl rfl rfl rfl rfl ⟨rfl, rfl, rfl, rfl, rfl⟩ rfl rfl rfl rfl rfl (by kernel_rfl) Tryd.func3 (by kernel_rfl)
    (of_decide_eq_true (by kernel_rfl)) (by unfold Func.isWrapper; rw [if_neg (of_decide_eq_false (by kernel_rfl))]; exact ⟨rfl, rfl⟩)
    (fun os started H enc _ => squares_lifted os started H enc)

theorem squares_card : Rows.WideSquaresCardSaid :=
  Claim7.holds_tied_plain_at .later [] [.data, .data, .data] true (true, "4a14bf82196382be670ee67696ed6504ac63f053d7b56463f2dc3046ea5a8924") false
    squares_holds (fun _ h => by cases h) (by kernel_rfl) (fun _ h => by cases h) wideSquares_row_tie rfl ⟨rfl, rfl⟩ (by kernel_rfl) rfl
    (fun f fn hf hfn => by
      obtain rfl : f = 3 := Option.some.inj ((show Tryd.prog.funcNamed "pergola/pergolalaw1.WideSquares" = some 3 by kernel_rfl).symm.trans hf) |>.symm
      obtain rfl : fn = Tryd.f3 := (Option.some.inj (Tryd.func3.symm.trans hfn)).symm
      refine ⟨by kernel_rfl, fun j t ht => ?_⟩
      have hall : (Tryd.f3.params.toList.all fun t => !(Tryd.prog.wantsStandIn t)) = true := by kernel_rfl
      have := List.all_eq_true.1 hall t (by simpa using Array.mem_of_getElem? ht)
      exact (by simpa using this : Tryd.prog.wantsStandIn t = false))
    (by kernel_rfl)
#print axioms squares_card
end Go.Proofs.YtpmnghobcciiaaaDoor
