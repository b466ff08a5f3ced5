/- RatioWhole: whole numbers' squares stand as the numbers without their signs. For every two numbers; no condition. -/
import Derived.Test.YthamagnlpndnoaaDoorL2Awake
import Derived.Test.YthamagnlpndnoaaDoorTied
import Derived.Test.YthamagnlpndnoaaDoorTie
import Derived.Test.YthamagnlpndnoaaDoorCards
namespace Go.Proofs.YthamagnlpndnoaaDoor
open Go.ChangeShapes Go.WideShapes Go.ChangeAt Go.RowKit

theorem sq_lt {x y : Int} (hx : 0 ≤ x) (h : x < y) : x * x < y * y := by
  have h1 : x * x ≤ x * y := Int.mul_le_mul_of_nonneg_left (by omega) hx
  have h2 : x * y < y * y := Int.mul_lt_mul_of_pos_right h (by omega)
  omega
theorem big_sq {n : Int} (hn : Int64 n) : num (hiOf (n * n)) (loOf (n * n)) = n * n := num_hl (by have := sq_big hn; unfold Big; omega)
theorem cmpD_sq {n m : Int} (hn : Int64 n) (hm : Int64 m) : cmpD (hiOf (n * n)) (loOf (n * n)) 1 (hiOf (m * m)) (loOf (m * m)) 1 = cmpV (n * n) (m * m) := by
  unfold cmpD; rw [if_neg (by decide), if_neg (by decide), big_sq hn, big_sq hm, Int.mul_one, Int.mul_one]
theorem cmp_self (A : Int) : cmpV A A = 0 := by unfold cmpV; rw [if_neg (Int.lt_irrefl _), if_neg (Int.lt_irrefl _)]

set_option maxHeartbeats 2000000 in
theorem whole_core (n m K : Int) (hn : Int64 n) (hm : Int64 m) (hK : cmpV (n * n) (m * m) = K) (h1 : decide (K < 0) = decide (absI n < absI m)) (h2 : (K == 0) = (absI n == absI m)) (w : World) (htab : Tab w) :
    Calls Tryd.prog 9 #[.int .i64 n, .int .i64 m] w fun e w' => e = .returned (.bool true) ∧ Below w.heap.size w w' := by
  have HC := fun w => rcmp_any (hiOf (n * n)) (loOf (n * n)) 1 (hiOf (m * m)) (loOf (m * m)) 1 (hiOf_word _) (loOf_word _) (by unfold Word; omega) (hiOf_word _) (loOf_word _) (by unfold Word; omega) w
  rw [cmpD_sq hn hm, hK] at HC
  have HL := fun w => less_any 1 (hiOf (n * n)) (loOf (n * n)) 1 2 (hiOf (n * n)) (loOf (n * n)) 1 (hiOf_word _) (loOf_word _) (by unfold Word; omega) (hiOf_word _) (loOf_word _) (by unfold Word; omega) w
  rw [cmpD_sq hn hn, cmp_self, show decide (orV [0, cmpV 1 2] < 0) = true from by decide] at HL
  have HA := fun w => rabs_any n hn w
  have HB := fun w => rabs_any m hm w
  have HS := fun w => of_any n hn w
  have HT := fun w => of_any m hm w
  generalize absI n = x at *
  generalize absI m = y at *
  generalize hiOf (n * n) = a1 at *
  generalize loOf (n * n) = a0 at *
  generalize hiOf (m * m) = b1 at *
  generalize loOf (m * m) = b0 at *
  clear hK hn hm
  have hfd : ∀ w : World, (Instr.field 24 (.agg #[.int .u64 a1, .int .u64 a0, .int .u64 1]) 2).run Tryd.prog w = .ok (.int .u64 1) w := fun _ => by kernel_rfl
  go_enter Tryd.func9, Tryd.ntmps9
  go_wp2_with fail
  refine (HA _).mono ?_; rintro e w1 ⟨rfl, rfl⟩
  go_wp2_with fail
  refine (HB _).mono ?_; rintro e w2 ⟨rfl, rfl⟩
  go_wp2_with fail
  refine (HS _).mono ?_; rintro e w3 ⟨rfl, hB3⟩; obtain ⟨hc3, hf3⟩ := keep hB3; have hz3 := hB3.size; try simp at hz3
  go_wp2_with fail
  refine (HT _).mono ?_; rintro e w4 ⟨rfl, hB4⟩; obtain ⟨hc4, hf4⟩ := keep hB4; have hz4 := hB4.size; try simp at hz4
  go_wp2_with fail
  refine (HC _).mono ?_; rintro e w5 ⟨rfl, hB5⟩; obtain ⟨hc5, hf5⟩ := keep hB5; have hz5 := hB5.size; try simp at hz5
  go_wp2_with fail
  refine (HS _).mono ?_; rintro e w6 ⟨rfl, hB6⟩; obtain ⟨hc6, hf6⟩ := keep hB6; have hz6 := hB6.size; try simp at hz6
  go_wp2_with fail
  refine (HS _).mono ?_; rintro e w7 ⟨rfl, hB7⟩; obtain ⟨hc7, hf7⟩ := keep hB7; have hz7 := hB7.size; try simp at hz7
  go_wp2_with fail
  refine (HS _).mono ?_; rintro e w8 ⟨rfl, hB8⟩; obtain ⟨hc8, hf8⟩ := keep hB8; have hz8 := hB8.size; try simp at hz8
  go_wp2_with fail
  refine (HL _).mono ?_; rintro e w9 ⟨rfl, hB9⟩; obtain ⟨hc9, hf9⟩ := keep hB9; have hz9 := hB9.size; try simp at hz9
  go_wp2_with fail
  refine (awake2_any _ (htab.below (by (repeat' (first | (with_reducible exact Below.refl _ _) | (with_reducible assumption) | (with_reducible refine Below.alloc ?_ ?_ _) | (with_reducible refine Below.drew ?_) | (with_reducible refine drewN_below ?_ _) | (with_reducible refine Below.setCell ?_ ?_ _) | (with_reducible refine below_call (by with_reducible assumption) ?_ ?_) | (first | (with_reducible exact Nat.le_refl _) | (with_reducible assumption) | omega | (simp; done) | (simp; omega))))))).mono ?_; rintro e wa ⟨rfl, hBa⟩; obtain ⟨hca, hfa⟩ := keep hBa; have hza := hBa.size; try simp at hza
  go_wp2
  go_ret
  exact ⟨rfl, by (repeat' (first | (with_reducible exact Below.refl _ _) | (with_reducible assumption) | (with_reducible refine Below.alloc ?_ ?_ _) | (with_reducible refine Below.drew ?_) | (with_reducible refine drewN_below ?_ _) | (with_reducible refine Below.setCell ?_ ?_ _) | (with_reducible refine below_call (by with_reducible assumption) ?_ ?_) | (first | (with_reducible exact Nat.le_refl _) | (with_reducible assumption) | omega | (simp; done) | (simp; omega))))⟩

theorem whole_walk (n m : Int) (hn : Int64 n) (hm : Int64 m) (w : World) (htab : Tab w) :
    Calls Tryd.prog 9 #[.int .i64 n, .int .i64 m] w fun e w' => e = .returned (.bool true) ∧ Below w.heap.size w w' := by
  have x0 := (absI_word hn).1
  have y0 := (absI_word hm).1
  have ex := absI_mul n
  have ey := absI_mul m
  rcases Int.lt_trichotomy (absI n) (absI m) with h | h | h
  · have := sq_lt x0 h
    refine whole_core n m (-1) hn hm (by unfold cmpV; rw [if_pos (by omega)]) (by simp [h]) ?_ w htab
    rw [beq_eq_false_iff_ne.2 (by omega : absI n ≠ absI m)]; rfl
  · have : n * n = m * m := by rw [← ex, ← ey, h]
    refine whole_core n m 0 hn hm (by unfold cmpV; rw [if_neg (by omega), if_neg (by omega)]) (by simp [h]) ?_ w htab
    rw [beq_iff_eq.2 h]; rfl
  · have := sq_lt y0 h
    refine whole_core n m 1 hn hm (by unfold cmpV; rw [if_neg (by omega), if_pos (by omega)]) (by simp; omega) ?_ w htab
    rw [beq_eq_false_iff_ne.2 (by omega : absI n ≠ absI m)]; rfl

set_option maxRecDepth 100000 in
theorem whole_lifted (os : Os) (started : os.Started) (H : Type) (enc : TypeId × Value → H) :
    ReturnsInHanded {} Tryd.checked os 9 .any (fun w args => (Rows.ratioWholeSpec.pre enc Tryd.prog Tryd.f9 [] false w args ∧ laidMet Tryd.prog laidL w) ∧ sizedMet enc Tryd.prog Tryd.f9 (OpenSpec.ofChange Rows.ratioWholeSpec) false w args) (Rows.ratioWholeSpec.post enc Tryd.prog Tryd.f9 false true false false) := by
  refine returnsInHanded_of_change_and (C := Tryd.checked) (X := fun w _ => laidMet Tryd.prog laidL w) (fun _ _ _ hh h => laid_heap hh h) own started (by kernel_rfl) Tryd.func9
    (ChangeSpec.witness_at (enc := enc) (C := Tryd.checked) (os := os) (X := fun w _ => laidMet Tryd.prog laidL w) false (laidWorld os) #[.int .i64 0, .int .i64 0] 8 rfl (by kernel_rfl) (by kernel_rfl) (by kernel_rfl) (by kernel_rfl) (by kernel_rfl) (laidWorld_met os _)) ?_
  intro W base args ds gs before hval0 hW _ _ hL _
  have hval : ∀ (j : Nat) t v, Tryd.f9.params[j]? = some t → args[j]? = some v → Value.okWide Tryd.prog W .any base t v := hval0
  have hT := tab_of_laid hL
  have hW' := hW
  obtain ⟨p, q, hA0, hV, rfl, _, _⟩ := hW
  have hA : DataW.TrodAll enc Tryd.prog W 0 (fun _ => true) true Tryd.f9.params.toList args.toList ds p := hA0
  rw [Tryd.params9] at hA hval
  obtain ⟨v0, vs0, d0, ds0, p0, q0, hargs, rfl, rfl, h0, r0⟩ := trodAll_cons hA
  obtain ⟨v1, vs1, d1, ds1, p1, q1, rfl, rfl, rfl, h1, r1⟩ := trodAll_cons r0
  obtain ⟨rfl, rfl, rfl⟩ := trodAll_nil r1
  obtain rfl : args = #[v0, v1] := by cases args; simp_all
  obtain ⟨rfl, rfl⟩ := trodVars_none hV
  obtain ⟨x0a, rfl, rfl, rfl, wx0a⟩ := open_int Tryd.underlying3 (hval 0 3 v0 rfl rfl) h0
  obtain ⟨x1a, rfl, rfl, rfl, wx1a⟩ := open_int Tryd.underlying3 (hval 1 3 v1 rfl rfl) h1
  refine (whole_walk _ _ (int64_of_wf wx0a) (int64_of_wf wx1a) W hT).mono fun e W' ⟨he, hb⟩ => ?_
  subst he
  exact ⟨_, rfl, post_true laidOut (by kernel_rfl) rfl hW' hb (trodAll_mk1 (shut_bool Tryd.underlying4 _)) rfl rfl⟩

theorem whole_holds : Rows.RatioWholeSaid :=
  OpenClaim.holds_of_wide 9 Tryd.f9 rfl rfl rfl rfl rfl rfl rfl ⟨rfl, rfl, rfl, rfl, rfl⟩ rfl rfl rfl rfl rfl (by kernel_rfl) Tryd.func9 (by kernel_rfl)
    (of_decide_eq_true (by kernel_rfl)) (by unfold Func.isWrapper; rw [if_neg (of_decide_eq_false (by kernel_rfl))]; exact ⟨rfl, rfl⟩)
    (fun os started H enc _ => whole_lifted os started H enc)

theorem whole_card : Rows.RatioWholeCardSaid :=
  Claim7.holds_tied_plain_at .later [] [.data, .data, .data] true (true, "59809f3e1549d4f568f852ccf1b2e93c587261b9280541bfe02b80e992a06706") true
    whole_holds (fun _ h => by cases h) (by kernel_rfl) (fun _ h => by cases h) ratioWhole_row_tie rfl ⟨rfl, rfl⟩ (by kernel_rfl) rfl
    (fun f fn hf hfn => by
      obtain rfl : f = 9 := Option.some.inj ((show Tryd.prog.funcNamed "pergola/pergolalaw2.RatioWhole" = some 9 by kernel_rfl).symm.trans hf) |>.symm
      obtain rfl : fn = Tryd.f9 := (Option.some.inj (Tryd.func9.symm.trans hfn)).symm
      refine ⟨by kernel_rfl, fun j t ht => ?_⟩
      have hall : (Tryd.f9.params.toList.all fun t => !(Tryd.prog.wantsStandIn t)) = true := by kernel_rfl
      have := List.all_eq_true.1 hall t (by simpa using Array.mem_of_getElem? ht)
      exact (by simpa using this : Tryd.prog.wantsStandIn t = false))
    (by kernel_rfl)
#print axioms whole_card
end Go.Proofs.YthamagnlpndnoaaDoor
