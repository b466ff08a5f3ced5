/- WideTexts: any number is written; any text is read as the number that it is, or refused. For every number and every text; no condition. -/
import Derived.Test.YtpmnghobcciiaaaDoorL1Awake
import Derived.Test.YtpmnghobcciiaaaDoorRParse
import Derived.Test.YtpmnghobcciiaaaDoorTied
import Derived.Test.YtpmnghobcciiaaaDoorTie
import Derived.Test.YtpmnghobcciiaaaDoorCards
import Derived.ChangeMaps5
namespace Go.Proofs.YtpmnghobcciiaaaDoor
open Go.ChangeShapes Go.WideShapes Go.ChangeAt Go.RowKit

theorem parse_form (l : List UInt8) : ∃ p q b, parseRet l = .tuple #[.agg #[.int .u64 p, .int .u64 q], .bool b] := by
  unfold parseRet
  split
  · exact ⟨_, _, _, rfl⟩
  · exact ⟨_, _, _, rfl⟩
theorem parse_numeral {h l : Int} (h1 : Word h) (h2 : Word l) : parseRet (numeral (num h l)).data.toList = .tuple #[.agg #[.int .u64 h, .int .u64 l], .bool true] := by
  have hN := num_big h1 h2
  have e : (numeral (num h l)).data.toList = Lib.decDigits (num h l).toNat := rfl
  have e2 : (((num h l).toNat : Nat) : Int) = num h l := by unfold Big at hN; omega
  rw [e, parse_good (okL_dec (by unfold Big at hN; omega)), dec_val, e2, hiOf_num h1 h2, loOf_num h2]

set_option maxHeartbeats 2000000 in
theorem texts_long (h l : Int) (s : ByteArray) (hs : 200 < s.size) (w : World) (htab : Tab w) :
    Calls Tryd.prog 9 #[.int .u64 h, .int .u64 l, .string s] w fun e w' => e = .returned (.bool true) ∧ Below w.heap.size w w' := by
  have hs1 : (200 : Int) < (s.size : Int) := by omega
  clear hs
  go_enter Tryd.func9, Tryd.ntmps9
  go_wp2_with fail
  refine (awake1_any _ (htab.below (by (repeat' (first | (with_reducible exact Below.refl _ _) | (with_reducible assumption) | (with_reducible refine Below.alloc ?_ ?_ _) | (with_reducible refine Below.drew ?_) | (with_reducible refine drewN_below ?_ _) | (with_reducible refine Below.setCell ?_ ?_ _) | (with_reducible refine below_call (by with_reducible assumption) ?_ ?_) | (first | (with_reducible exact Nat.le_refl _) | (with_reducible assumption) | omega | (simp; done) | (simp; omega))))))).mono ?_; rintro e w1 ⟨rfl, hB1⟩; obtain ⟨hc1, hf1⟩ := keep hB1; have hz1 := hB1.size; try simp at hz1
  go_wp2
  go_ret
  exact ⟨rfl, by (repeat' (first | (with_reducible exact Below.refl _ _) | (with_reducible assumption) | (with_reducible refine Below.alloc ?_ ?_ _) | (with_reducible refine Below.drew ?_) | (with_reducible refine drewN_below ?_ _) | (with_reducible refine Below.setCell ?_ ?_ _) | (with_reducible refine below_call (by with_reducible assumption) ?_ ?_) | (first | (with_reducible exact Nat.le_refl _) | (with_reducible assumption) | omega | (simp; done) | (simp; omega))))⟩

set_option maxHeartbeats 4000000 in
set_option maxRecDepth 100000 in
theorem texts_short (h l : Int) (s : ByteArray) (h1 : Word h) (h2 : Word l) (hs : ¬ 200 < s.size) (w : World) (htab : Tab w) :
    Calls Tryd.prog 9 #[.int .u64 h, .int .u64 l, .string s] w fun e w' => e = .returned (.bool true) ∧ Below w.heap.size w w' := by
  have hs1 : ¬ (200 : Int) < (s.size : Int) := by omega
  obtain ⟨p, q, b, hpf⟩ := parse_form s.data.toList
  have HP := fun w ht => parse_any s w ht
  have HR := fun w => rparse_any s w
  rw [hpf] at HP HR
  have HN := fun w ht => parse_any (numeral (num h l)) w ht
  rw [parse_numeral h1 h2] at HN
  have HT := fun w ht => text_any h l h1 h2 w ht
  have HU := fun w => rtextN_any h l h1 h2 w
  generalize numeral (num h l) = z at *
  clear hs h1 h2 hpf
  go_enter Tryd.func9, Tryd.ntmps9
  go_wp2_with fail
  refine (HP _ (htab.below (by (repeat' (first | (with_reducible exact Below.refl _ _) | (with_reducible assumption) | (with_reducible refine Below.alloc ?_ ?_ _) | (with_reducible refine Below.drew ?_) | (with_reducible refine drewN_below ?_ _) | (with_reducible refine Below.setCell ?_ ?_ _) | (with_reducible refine below_call (by with_reducible assumption) ?_ ?_) | (first | (with_reducible exact Nat.le_refl _) | (with_reducible assumption) | omega | (simp; done) | (simp; omega))))))).mono ?_; rintro e w1 ⟨rfl, hB1⟩; obtain ⟨hc1, hf1⟩ := keep hB1; have hz1 := hB1.size; try simp at hz1
  go_wp2_with fail
  refine (HR _).mono ?_; rintro e w2 ⟨rfl, hB2⟩; obtain ⟨hc2, hf2⟩ := keep hB2; have hz2 := hB2.size; try simp at hz2
  go_wp2_with fail
  refine (lw_any _ _ _).mono ?_; rintro e w3 ⟨rfl, hB3⟩; obtain ⟨hc3, hf3⟩ := keep hB3; have hz3 := hB3.size; try simp at hz3
  go_wp2_with fail
  refine (HT _ (htab.below (by (repeat' (first | (with_reducible exact Below.refl _ _) | (with_reducible assumption) | (with_reducible refine Below.alloc ?_ ?_ _) | (with_reducible refine Below.drew ?_) | (with_reducible refine drewN_below ?_ _) | (with_reducible refine Below.setCell ?_ ?_ _) | (with_reducible refine below_call (by with_reducible assumption) ?_ ?_) | (first | (with_reducible exact Nat.le_refl _) | (with_reducible assumption) | omega | (simp; done) | (simp; omega))))))).mono ?_; rintro e w4 ⟨rfl, hB4⟩; obtain ⟨hc4, hf4⟩ := keep hB4; have hz4 := hB4.size; try simp at hz4
  go_wp2_with fail
  refine (HN _ (htab.below (by (repeat' (first | (with_reducible exact Below.refl _ _) | (with_reducible assumption) | (with_reducible refine Below.alloc ?_ ?_ _) | (with_reducible refine Below.drew ?_) | (with_reducible refine drewN_below ?_ _) | (with_reducible refine Below.setCell ?_ ?_ _) | (with_reducible refine below_call (by with_reducible assumption) ?_ ?_) | (first | (with_reducible exact Nat.le_refl _) | (with_reducible assumption) | omega | (simp; done) | (simp; omega))))))).mono ?_; rintro e w5 ⟨rfl, hB5⟩; obtain ⟨hc5, hf5⟩ := keep hB5; have hz5 := hB5.size; try simp at hz5
  go_wp2_with fail
  (refine wp_region_text (by kernel_rfl) (by kernel_rfl) ?_; (repeat (first | (refine step_val (v := ?_) (by rfl) ?_ ?_; rotate_left; (· (intro z hz; obtain ⟨hc, hf⟩ := keep hz; go_simp; first | done | (with_reducible rfl))); (try simp only [Act.put, List.setIfInBounds_toArray, List.set_cons_zero, List.set_cons_succ])) | (refine step_skip (by rfl) ?_; (try simp only [Act.put, List.setIfInBounds_toArray, List.set_cons_zero, List.set_cons_succ])) | (refine step_call (v := ?_) (f := ?_) (args := ?_) (by rfl) ?_ ?_ ?_; rotate_left; rotate_left; rotate_left; (· (intro z hz; go_simp; first | done | (with_reducible rfl) | (constructor <;> with_reducible rfl))); (· (intro z hz; first | (go_at_call 18; refine (lw_any _ _ _).mono ?_; rintro e w' ⟨rfl, hB⟩; refine ⟨?_, hz.trans (hB.mono hz.size)⟩; with_reducible rfl) | (go_at_call 31; refine (HT _ (htab.below (by (repeat' (first | (with_reducible exact Below.refl _ _) | (with_reducible assumption) | (with_reducible refine Below.alloc ?_ ?_ _) | (with_reducible refine Below.drew ?_) | (with_reducible refine drewN_below ?_ _) | (with_reducible refine Below.setCell ?_ ?_ _) | (with_reducible refine below_call (by with_reducible assumption) ?_ ?_) | (first | (with_reducible exact Nat.le_refl _) | (with_reducible assumption) | omega | (simp; done) | (simp; omega))))))).mono ?_; rintro e w' ⟨rfl, hB⟩; refine ⟨?_, hz.trans (hB.mono hz.size)⟩; with_reducible rfl) | (go_at_call 32; refine (HU _).mono ?_; rintro e w' ⟨rfl, hB⟩; refine ⟨?_, hz.trans (hB.mono hz.size)⟩; with_reducible rfl) | (go_at_call 21; refine (lu_any _ _ _).mono ?_; rintro e w' ⟨rfl, hB⟩; refine ⟨?_, hz.trans (hB.mono hz.size)⟩; with_reducible rfl) | (go_at_call 15; refine (awake1_any _ (htab.below (by (repeat' (first | (with_reducible exact Below.refl _ _) | (with_reducible assumption) | (with_reducible refine Below.alloc ?_ ?_ _) | (with_reducible refine Below.drew ?_) | (with_reducible refine drewN_below ?_ _) | (with_reducible refine Below.setCell ?_ ?_ _) | (with_reducible refine below_call (by with_reducible assumption) ?_ ?_) | (first | (with_reducible exact Nat.le_refl _) | (with_reducible assumption) | omega | (simp; done) | (simp; omega))))))).mono ?_; rintro e w' ⟨rfl, hB⟩; refine ⟨?_, hz.trans (hB.mono hz.size)⟩; with_reducible rfl))); (try simp only [Act.put, List.setIfInBounds_toArray, List.set_cons_zero, List.set_cons_succ])))); refine steps_end ?_; intro w' hB; obtain ⟨hc, hf⟩ := keep hB; have hz := hB.size; try simp at hz)
  go_wp2
  go_ret
  exact ⟨rfl, by (repeat' (first | (with_reducible exact Below.refl _ _) | (with_reducible assumption) | (with_reducible refine Below.alloc ?_ ?_ _) | (with_reducible refine Below.drew ?_) | (with_reducible refine drewN_below ?_ _) | (with_reducible refine Below.setCell ?_ ?_ _) | (with_reducible refine below_call (by with_reducible assumption) ?_ ?_) | (first | (with_reducible exact Nat.le_refl _) | (with_reducible assumption) | omega | (simp; done) | (simp; omega))))⟩

theorem texts_walk (h l : Int) (s : ByteArray) (h1 : Word h) (h2 : Word l) (w : World) (htab : Tab w) :
    Calls Tryd.prog 9 #[.int .u64 h, .int .u64 l, .string s] w fun e w' => e = .returned (.bool true) ∧ Below w.heap.size w w' := by
  by_cases hs : 200 < s.size
  · exact texts_long h l s hs w htab
  · exact texts_short h l s h1 h2 hs w htab

set_option maxRecDepth 100000 in
theorem texts_lifted (os : Os) (started : os.Started) (H : Type) (enc : TypeId × Value → H) :
    ReturnsInHanded {} Tryd.checked os 9 .any (fun w args => (Rows.wideTextsSpec.pre enc Tryd.prog Tryd.f9 [] false w args ∧ laidMet Tryd.prog laidL w) ∧ sizedMet enc Tryd.prog Tryd.f9 (OpenSpec.ofChange Rows.wideTextsSpec) false w args) (Rows.wideTextsSpec.post enc Tryd.prog Tryd.f9 false true false false) := by
  refine returnsInHanded_of_change_and (C := Tryd.checked) (X := fun w _ => laidMet Tryd.prog laidL w) (fun _ _ _ hh h => laid_heap hh h) own started (by kernel_rfl) Tryd.func9
    (ChangeSpec.witness_at (enc := enc) (C := Tryd.checked) (os := os) (X := fun w _ => laidMet Tryd.prog laidL w) false (laidWorld os) #[.int .u64 0, .int .u64 0, .string ⟨#[]⟩] 8 rfl (by kernel_rfl) (by kernel_rfl) (by kernel_rfl) (by kernel_rfl) (by kernel_rfl) (laidWorld_met os _)) ?_
  intro W base args ds gs before hval0 hW _ _ hL _
  have hval : ∀ (j : Nat) t v, Tryd.f9.params[j]? = some t → args[j]? = some v → Value.okWide Tryd.prog W .any base t v := hval0
  have hT := tab_of_laid hL
  have hW' := hW
  obtain ⟨p, q, hA0, hV, rfl, _, _⟩ := hW
  have hA : DataW.TrodAll enc Tryd.prog W 0 (fun _ => true) true Tryd.f9.params.toList args.toList ds p := hA0
  rw [Tryd.params9] at hA hval
  obtain ⟨v0, vs0, d0, ds0, p0, q0, hargs, rfl, rfl, h0, r0⟩ := trodAll_cons hA
  obtain ⟨v1, vs1, d1, ds1, p1, q1, rfl, rfl, rfl, h1, r1⟩ := trodAll_cons r0
  obtain ⟨v2, vs2, d2, ds2, p2, q2, rfl, rfl, rfl, h2, r2⟩ := trodAll_cons r1
  obtain ⟨rfl, rfl, rfl⟩ := trodAll_nil r2
  obtain rfl : args = #[v0, v1, v2] := by cases args; simp_all
  obtain ⟨rfl, rfl⟩ := trodVars_none hV
  obtain ⟨x0a, rfl, rfl, rfl, wx0a⟩ := open_int Tryd.underlying22 (hval 0 22 v0 rfl rfl) h0
  obtain ⟨x1a, rfl, rfl, rfl, wx1a⟩ := open_int Tryd.underlying22 (hval 1 22 v1 rfl rfl) h1
  obtain ⟨x2a, rfl, rfl, rfl, wx2a⟩ := Go.ChangeMaps.open_string Tryd.underlying9 (hval 2 9 v2 rfl rfl) h2
  refine (texts_walk _ _ _ (word_of_wf wx0a) (word_of_wf wx1a) W hT).mono fun e W' ⟨he, hb⟩ => ?_
  subst he
  exact ⟨_, rfl, post_true laidOut (by kernel_rfl) rfl hW' hb (trodAll_mk1 (shut_bool Tryd.underlying4 _)) rfl rfl⟩

theorem texts_holds : Rows.WideTextsSaid :=
  OpenClaim.holds_of_wide 9 Tryd.f9 rfl rfl rfl rfl rfl rfl rfl ⟨rfl, rfl, rfl, rfl, rfl⟩ rfl rfl rfl rfl rfl (by kernel_rfl) Tryd.func9 (by kernel_rfl)
    (of_decide_eq_true (by kernel_rfl)) (by unfold Func.isWrapper; rw [if_neg (of_decide_eq_false (by kernel_rfl))]; exact ⟨rfl, rfl⟩)
    (fun os started H enc _ => texts_lifted os started H enc)

theorem texts_card : Rows.WideTextsCardSaid :=
  Claim7.holds_tied_plain_at .later [] [.data, .data, .data] true (true, "4a14bf82196382be670ee67696ed6504ac63f053d7b56463f2dc3046ea5a8924") false
    texts_holds (fun _ h => by cases h) (by kernel_rfl) (fun _ h => by cases h) wideTexts_row_tie rfl ⟨rfl, rfl⟩ (by kernel_rfl) rfl
    (fun f fn hf hfn => by
      obtain rfl : f = 9 := Option.some.inj ((show Tryd.prog.funcNamed "pergola/pergolalaw1.WideTexts" = some 9 by kernel_rfl).symm.trans hf) |>.symm
      obtain rfl : fn = Tryd.f9 := (Option.some.inj (Tryd.func9.symm.trans hfn)).symm
      refine ⟨by kernel_rfl, fun j t ht => ?_⟩
      have hall : (Tryd.f9.params.toList.all fun t => !(Tryd.prog.wantsStandIn t)) = true := by kernel_rfl
      have := List.all_eq_true.1 hall t (by simpa using Array.mem_of_getElem? ht)
      exact (by simpa using this : Tryd.prog.wantsStandIn t = false))
    (by kernel_rfl)
#print axioms texts_card
end Go.Proofs.YtpmnghobcciiaaaDoor
