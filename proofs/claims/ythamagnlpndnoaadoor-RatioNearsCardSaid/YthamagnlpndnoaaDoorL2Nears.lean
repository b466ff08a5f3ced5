/- RatioNears: what is near stands in one order by distance, then id; of two unlike ids just one is first. For every three; no condition. -/
import Derived.Test.YthamagnlpndnoaaDoorL2Awake
import Derived.Test.YthamagnlpndnoaaDoorL2Math
import Derived.Test.YthamagnlpndnoaaDoorOpenNear
import Derived.Test.YthamagnlpndnoaaDoorTied
import Derived.Test.YthamagnlpndnoaaDoorTie
import Derived.Test.YthamagnlpndnoaaDoorCards
namespace Go.Proofs.YthamagnlpndnoaaDoor
open Go.ChangeShapes Go.WideShapes Go.ChangeAt Go.RowKit

/-- The order's sign: by distance, then id. -/
theorem or_neg {K i j : Int} : orV [K, cmpV i j] < 0 ↔ K < 0 ∨ (K = 0 ∧ i < j) := by
  simp only [orV]
  unfold cmpV
  omega

set_option maxHeartbeats 4000000 in
set_option maxRecDepth 100000 in
theorem nears_core (i ah al ad j bh bl bd k ch cl cd : Int) (h1 : Word ah) (h2 : Word al) (h3 : Word ad) (h4 : Word bh) (h5 : Word bl) (h6 : Word bd) (h7 : Word ch) (h8 : Word cl) (h9 : Word cd)
    (K : Int) (X Y Z V I : Bool) (fK : cmpD ah al ad bh bl bd = K) (fX : decide (orV [cmpD ah al ad bh bl bd, cmpV i j] < 0) = X) (fY : decide (orV [cmpD bh bl bd ah al ad, cmpV j i] < 0) = Y)
    (fS : decide (orV [cmpD ah al ad ah al ad, cmpV i i] < 0) = false) (fZ : decide (orV [cmpD bh bl bd ch cl cd, cmpV j k] < 0) = Z) (fV : decide (orV [cmpD ah al ad ch cl cd, cmpV i k] < 0) = V)
    (fI : (i != j) = I) (hc : (X = true ∧ Y = false ∧ (Z = false ∨ (Z = true ∧ V = true)) ∧ (K = -1 ∨ K = 0) ∧ (I = true ∨ I = false)) ∨ (X = false ∧ Y = true ∧ (K = 0 ∨ K = 1) ∧ (I = true ∨ I = false)) ∨ (X = false ∧ Y = false ∧ I = false ∧ K = 0)) (w : World) (htab : Tab w) :
    Calls Tryd.prog 6 #[nearV i ah al ad, nearV j bh bl bd, nearV k ch cl cd] w fun e w' => e = .returned (.bool true) ∧ Below w.heap.size w w' := by
  have HC := fun w => rcmp_any ah al ad bh bl bd h1 h2 h3 h4 h5 h6 w
  rw [fK] at HC
  clear fK
  rcases hc with ⟨rfl, rfl, hz, hk, hi⟩ | ⟨rfl, rfl, hk, hi⟩ | ⟨rfl, rfl, rfl, rfl⟩
  · rcases hz with rfl | ⟨rfl, rfl⟩ <;> rcases hk with rfl | rfl <;> rcases hi with rfl | rfl
    all_goals
      go_enter Tryd.func6, Tryd.ntmps6
      go_wp2_with (first | (go_at_call 20; refine (less_any _ _ _ _ _ _ _ _ (by assumption) (by assumption) (by assumption) (by assumption) (by assumption) (by assumption) _).mono ?_; rintro e w' ⟨rfl, hB⟩; obtain ⟨hc, hf⟩ := keep hB; have hz := hB.size; try simp at hz) | (go_at_call 17; refine (HC _).mono ?_; rintro e w' ⟨rfl, hB⟩; obtain ⟨hc, hf⟩ := keep hB; have hz := hB.size; try simp at hz) | (go_at_call 14; refine (awake2_any _ (htab.below (by (repeat' (first | (with_reducible exact Below.refl _ _) | (with_reducible assumption) | (with_reducible refine Below.alloc ?_ ?_ _) | (with_reducible refine Below.drew ?_) | (with_reducible refine drewN_below ?_ _) | (with_reducible refine Below.setCell ?_ ?_ _) | (with_reducible refine below_call (by with_reducible assumption) ?_ ?_) | (first | (with_reducible exact Nat.le_refl _) | (with_reducible assumption) | omega | (simp; done) | (simp; omega))))))).mono ?_; rintro e w' ⟨rfl, hB⟩; obtain ⟨hc, hf⟩ := keep hB; have hz := hB.size; try simp at hz))
      go_ret
      exact ⟨rfl, by (repeat' (first | (with_reducible exact Below.refl _ _) | (with_reducible assumption) | (with_reducible refine Below.alloc ?_ ?_ _) | (with_reducible refine Below.drew ?_) | (with_reducible refine drewN_below ?_ _) | (with_reducible refine Below.setCell ?_ ?_ _) | (with_reducible refine below_call (by with_reducible assumption) ?_ ?_) | (first | (with_reducible exact Nat.le_refl _) | (with_reducible assumption) | omega | (simp; done) | (simp; omega))))⟩
  · rcases hk with rfl | rfl <;> rcases hi with rfl | rfl
    all_goals
      go_enter Tryd.func6, Tryd.ntmps6
      go_wp2_with (first | (go_at_call 20; refine (less_any _ _ _ _ _ _ _ _ (by assumption) (by assumption) (by assumption) (by assumption) (by assumption) (by assumption) _).mono ?_; rintro e w' ⟨rfl, hB⟩; obtain ⟨hc, hf⟩ := keep hB; have hz := hB.size; try simp at hz) | (go_at_call 17; refine (HC _).mono ?_; rintro e w' ⟨rfl, hB⟩; obtain ⟨hc, hf⟩ := keep hB; have hz := hB.size; try simp at hz) | (go_at_call 14; refine (awake2_any _ (htab.below (by (repeat' (first | (with_reducible exact Below.refl _ _) | (with_reducible assumption) | (with_reducible refine Below.alloc ?_ ?_ _) | (with_reducible refine Below.drew ?_) | (with_reducible refine drewN_below ?_ _) | (with_reducible refine Below.setCell ?_ ?_ _) | (with_reducible refine below_call (by with_reducible assumption) ?_ ?_) | (first | (with_reducible exact Nat.le_refl _) | (with_reducible assumption) | omega | (simp; done) | (simp; omega))))))).mono ?_; rintro e w' ⟨rfl, hB⟩; obtain ⟨hc, hf⟩ := keep hB; have hz := hB.size; try simp at hz))
      go_ret
      exact ⟨rfl, by (repeat' (first | (with_reducible exact Below.refl _ _) | (with_reducible assumption) | (with_reducible refine Below.alloc ?_ ?_ _) | (with_reducible refine Below.drew ?_) | (with_reducible refine drewN_below ?_ _) | (with_reducible refine Below.setCell ?_ ?_ _) | (with_reducible refine below_call (by with_reducible assumption) ?_ ?_) | (first | (with_reducible exact Nat.le_refl _) | (with_reducible assumption) | omega | (simp; done) | (simp; omega))))⟩
  · go_enter Tryd.func6, Tryd.ntmps6
    go_wp2_with (first | (go_at_call 20; refine (less_any _ _ _ _ _ _ _ _ (by assumption) (by assumption) (by assumption) (by assumption) (by assumption) (by assumption) _).mono ?_; rintro e w' ⟨rfl, hB⟩; obtain ⟨hc, hf⟩ := keep hB; have hz := hB.size; try simp at hz) | (go_at_call 17; refine (HC _).mono ?_; rintro e w' ⟨rfl, hB⟩; obtain ⟨hc, hf⟩ := keep hB; have hz := hB.size; try simp at hz) | (go_at_call 14; refine (awake2_any _ (htab.below (by (repeat' (first | (with_reducible exact Below.refl _ _) | (with_reducible assumption) | (with_reducible refine Below.alloc ?_ ?_ _) | (with_reducible refine Below.drew ?_) | (with_reducible refine drewN_below ?_ _) | (with_reducible refine Below.setCell ?_ ?_ _) | (with_reducible refine below_call (by with_reducible assumption) ?_ ?_) | (first | (with_reducible exact Nat.le_refl _) | (with_reducible assumption) | omega | (simp; done) | (simp; omega))))))).mono ?_; rintro e w' ⟨rfl, hB⟩; obtain ⟨hc, hf⟩ := keep hB; have hz := hB.size; try simp at hz))
    go_ret
    exact ⟨rfl, by (repeat' (first | (with_reducible exact Below.refl _ _) | (with_reducible assumption) | (with_reducible refine Below.alloc ?_ ?_ _) | (with_reducible refine Below.drew ?_) | (with_reducible refine drewN_below ?_ _) | (with_reducible refine Below.setCell ?_ ?_ _) | (with_reducible refine below_call (by with_reducible assumption) ?_ ?_) | (first | (with_reducible exact Nat.le_refl _) | (with_reducible assumption) | omega | (simp; done) | (simp; omega))))⟩

theorem nears_walk (i ah al ad j bh bl bd k ch cl cd : Int) (h1 : Word ah) (h2 : Word al) (h3 : Word ad) (h4 : Word bh) (h5 : Word bl) (h6 : Word bd) (h7 : Word ch) (h8 : Word cl) (h9 : Word cd) (w : World) (htab : Tab w) :
    Calls Tryd.prog 6 #[nearV i ah al ad, nearV j bh bl bd, nearV k ch cl cd] w fun e w' => e = .returned (.bool true) ∧ Below w.heap.size w w' := by
  have e1 := cmpN_neg (num ah al) ad (num bh bl) bd
  have e2 := cmpN_bd (num ah al) ad (num bh bl) bd
  have e3 := cmpN_self (num ah al) ad
  have e4 := cmpN_trans (N := num ah al) (d := ad) (M := num bh bl) (e := bd) (L := num ch cl) (f := cd) h3.1 h6.1 h9.1
  refine nears_core i ah al ad j bh bl bd k ch cl cd h1 h2 h3 h4 h5 h6 h7 h8 h9 _ _ _ _ _ _ rfl rfl rfl ?_ rfl rfl rfl ?_ w htab
  · rw [cmpD_cmpN, e3]; simp [or_neg]
  · simp only [cmpD_cmpN, decide_eq_true_eq, decide_eq_false_iff_not, or_neg, bne_iff_ne, ne_eq, bne_eq_false_iff_eq] at *
    rw [e1]
    generalize cmpN (num ah al) ad (num bh bl) bd = K at *
    generalize cmpN (num bh bl) bd (num ch cl) cd = M at *
    generalize cmpN (num ah al) ad (num ch cl) cd = P at *
    omega

set_option maxRecDepth 100000 in
theorem nears_lifted (os : Os) (started : os.Started) (H : Type) (enc : TypeId × Value → H) :
    ReturnsInHanded {} Tryd.checked os 6 .any (fun w args => (Rows.ratioNearsSpec.pre enc Tryd.prog Tryd.f6 [] false w args ∧ laidMet Tryd.prog laidL w) ∧ sizedMet enc Tryd.prog Tryd.f6 (OpenSpec.ofChange Rows.ratioNearsSpec) false w args) (Rows.ratioNearsSpec.post enc Tryd.prog Tryd.f6 false true false false) := by
  refine returnsInHanded_of_change_and (C := Tryd.checked) (X := fun w _ => laidMet Tryd.prog laidL w) (fun _ _ _ hh h => laid_heap hh h) own started (by kernel_rfl) Tryd.func6
    (ChangeSpec.witness_at (enc := enc) (C := Tryd.checked) (os := os) (X := fun w _ => laidMet Tryd.prog laidL w) false (laidWorld os) #[.agg #[.int .i64 0, .int .u64 0, .int .u64 0, .int .u64 0], .agg #[.int .i64 0, .int .u64 0, .int .u64 0, .int .u64 0], .agg #[.int .i64 0, .int .u64 0, .int .u64 0, .int .u64 0]] 8 rfl (by kernel_rfl) (by kernel_rfl) (by kernel_rfl) (by kernel_rfl) (by kernel_rfl) (laidWorld_met os _)) ?_
  intro W base args ds gs before hval0 hW _ _ hL _
  have hval : ∀ (j : Nat) t v, Tryd.f6.params[j]? = some t → args[j]? = some v → Value.okWide Tryd.prog W .any base t v := hval0
  have hT := tab_of_laid hL
  have hW' := hW
  obtain ⟨p, q, hA0, hV, rfl, _, _⟩ := hW
  have hA : DataW.TrodAll enc Tryd.prog W 0 (fun _ => true) true Tryd.f6.params.toList args.toList ds p := hA0
  rw [Tryd.params6] at hA hval
  obtain ⟨v0, vs0, d0, ds0, p0, q0, hargs, rfl, rfl, h0, r0⟩ := trodAll_cons hA
  obtain ⟨v1, vs1, d1, ds1, p1, q1, rfl, rfl, rfl, h1, r1⟩ := trodAll_cons r0
  obtain ⟨v2, vs2, d2, ds2, p2, q2, rfl, rfl, rfl, h2, r2⟩ := trodAll_cons r1
  obtain ⟨rfl, rfl, rfl⟩ := trodAll_nil r2
  obtain rfl : args = #[v0, v1, v2] := by cases args; simp_all
  obtain ⟨rfl, rfl⟩ := trodVars_none hV
  obtain ⟨x0a, x0b, x0c, x0d, rfl, wx0a, wx0b, wx0c, wx0d⟩ := open_near (hval 0 44 v0 rfl rfl) h0
  obtain ⟨x1a, x1b, x1c, x1d, rfl, wx1a, wx1b, wx1c, wx1d⟩ := open_near (hval 1 44 v1 rfl rfl) h1
  obtain ⟨x2a, x2b, x2c, x2d, rfl, wx2a, wx2b, wx2c, wx2d⟩ := open_near (hval 2 44 v2 rfl rfl) h2
  refine (nears_walk _ _ _ _ _ _ _ _ _ _ _ _ wx0b wx0c wx0d wx1b wx1c wx1d wx2b wx2c wx2d W hT).mono fun e W' ⟨he, hb⟩ => ?_
  subst he
  exact ⟨_, rfl, post_true laidOut (by kernel_rfl) rfl hW' hb (trodAll_mk1 (shut_bool Tryd.underlying4 _)) rfl rfl⟩

theorem nears_holds : Rows.RatioNearsSaid :=
  OpenClaim.holds_of_wide 6 Tryd.f6 rfl rfl rfl rfl rfl rfl rfl ⟨rfl, rfl, rfl, rfl, rfl⟩ rfl rfl rfl rfl rfl (by kernel_rfl) Tryd.func6 (by kernel_rfl)
    (of_decide_eq_true (by kernel_rfl)) (by unfold Func.isWrapper; rw [if_neg (of_decide_eq_false (by kernel_rfl))]; exact ⟨rfl, rfl⟩)
    (fun os started H enc _ => nears_lifted os started H enc)

theorem nears_card : Rows.RatioNearsCardSaid :=
  Claim7.holds_tied_plain_at .later [] [.data, .data, .data] true (true, "59809f3e1549d4f568f852ccf1b2e93c587261b9280541bfe02b80e992a06706") true
    nears_holds (fun _ h => by cases h) (by kernel_rfl) (fun _ h => by cases h) ratioNears_row_tie rfl ⟨rfl, rfl⟩ (by kernel_rfl) rfl
    (fun f fn hf hfn => by
      obtain rfl : f = 6 := Option.some.inj ((show Tryd.prog.funcNamed "pergola/pergolalaw2.RatioNears" = some 6 by kernel_rfl).symm.trans hf) |>.symm
      obtain rfl : fn = Tryd.f6 := (Option.some.inj (Tryd.func6.symm.trans hfn)).symm
      refine ⟨by kernel_rfl, fun j t ht => ?_⟩
      have hall : (Tryd.f6.params.toList.all fun t => !(Tryd.prog.wantsStandIn t)) = true := by kernel_rfl
      have := List.all_eq_true.1 hall t (by simpa using Array.mem_of_getElem? ht)
      exact (by simpa using this : Tryd.prog.wantsStandIn t = false))
    (by kernel_rfl)
#print axioms nears_card
end Go.Proofs.YthamagnlpndnoaaDoor
