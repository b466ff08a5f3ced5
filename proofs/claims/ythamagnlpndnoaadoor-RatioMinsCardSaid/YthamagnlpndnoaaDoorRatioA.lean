/- ratio: by, common, lowest, Make. -/
import Derived.Test.YthamagnlpndnoaaDoorDiv64
import Derived.Test.YthamagnlpndnoaaDoorLowest
namespace Go.Proofs.YthamagnlpndnoaaDoor
open Go.RowKit

theorem div_words {h l d : Int} (h1 : Word h) (h2 : Word l) (hd : 0 < d) : num h l / d = num (h / d) (num (h % d) l / d) ∧ num (h % d) l % d = num h l % d ∧ Word (h / d) ∧ Word (h % d) ∧ h % d < d ∧ Word (num (h % d) l / d) := by
  have a := Int.mul_ediv_add_emod h d
  have b := Int.emod_nonneg h (show d ≠ 0 by omega)
  have c := Int.emod_lt_of_pos h hd
  have q0 := quo_word h1 hd
  have r0 : Word (h % d) := by
    refine ⟨b, ?_⟩
    have := Int.mul_nonneg (Int.le_of_lt hd) q0.1
    have := h1.2; omega
  have e : num h l = d * ((h / d) * 18446744073709551616) + num (h % d) l := by
    unfold num
    have : d * (h / d * 18446744073709551616) = d * (h / d) * 18446744073709551616 := by rw [Int.mul_assoc]
    omega
  have e1 : num h l / d = h / d * 18446744073709551616 + num (h % d) l / d := by
    rw [e, Int.add_comm, Int.add_mul_ediv_left _ _ (by omega), Int.add_comm]
  have e2 : num h l % d = num (h % d) l % d := by
    rw [e, Int.add_comm, Int.add_mul_emod_self_left]
  refine ⟨e1, e2.symm, q0, r0, c, Int.ediv_nonneg ?_ (Int.le_of_lt hd), ?_⟩
  · have := num_big r0 h2; exact this.1
  · refine Int.ediv_lt_of_lt_mul hd ?_
    unfold num
    have := h2.2
    omega

set_option maxHeartbeats 1000000 in
theorem by_any (h l d : Int) (h1 : Word h) (h2 : Word l) (h3 : Word d) (h4 : 0 < d) (w : World) :
    Calls Tryd.prog 42 #[.agg #[.int .u64 h, .int .u64 l], .int .u64 d] w fun e w' => e = .returned (.tuple #[.agg #[.int .u64 (hiOf (num h l / d)), .int .u64 (loOf (num h l / d))], .int .u64 (num h l % d)]) ∧ Below w.heap.size w w' := by
  obtain ⟨e1, e2, w1, w2, hlt, w3⟩ := div_words h1 h2 h4
  rw [e1, ← e2, hiOf_num w1 w3, loOf_num w3]
  clear e1 e2
  have HD := fun w => div64_any (h % d) l d w2 h2 h3 hlt w
  have hq : IntKind.u64.wrap (h.tdiv d) = h / d := tdiv_wrap h1.1 h1.2 h4
  have hm : h.tmod d = h % d := Int.tmod_eq_emod_of_nonneg h1.1
  have hmw : IntKind.u64.wrap (h % d) = h % d := by rw [IntKind.wrap_u64]; unfold Word at w2; omega
  generalize num (h % d) l / d = q at *
  generalize num (h % d) l % d = r at *
  generalize h / d = x at *
  generalize h % d = y at *
  have hd : ¬ d = 0 := by omega
  go_enter Tryd.func42, Tryd.ntmps42
  go_wp2_with fail
  (refine wp_region_text (by kernel_rfl) (by kernel_rfl) ?_; (repeat (first | (refine step_val (v := ?_) (by rfl) ?_ ?_; rotate_left; (· (intro z hz; obtain ⟨hc, hf⟩ := keep hz; go_simp; first | done | (with_reducible rfl))); (try simp only [Act.put, List.setIfInBounds_toArray, List.set_cons_zero, List.set_cons_succ])) | (refine step_skip (by rfl) ?_; (try simp only [Act.put, List.setIfInBounds_toArray, List.set_cons_zero, List.set_cons_succ])) | (refine step_call (v := ?_) (f := ?_) (args := ?_) (by rfl) ?_ ?_ ?_; rotate_left; rotate_left; rotate_left; (· (intro z hz; go_simp; first | done | (with_reducible rfl) | (constructor <;> with_reducible rfl))); (· (intro z hz; first | (go_at_call 51; refine (HD _).mono ?_; rintro e w' ⟨rfl, hB⟩; refine ⟨?_, hz.trans (hB.mono hz.size)⟩; with_reducible rfl))); (try simp only [Act.put, List.setIfInBounds_toArray, List.set_cons_zero, List.set_cons_succ])))); refine steps_end ?_; intro w' hB; obtain ⟨hc, hf⟩ := keep hB; have hz := hB.size; try simp at hz)
  go_wp2
  exact bodyPost_ret (v := .tuple #[.agg #[.int .u64 x, .int .u64 q], .int .u64 r]) (by simp [*, results, Tryd.results42, go_sem]) rfl ⟨rfl, by (repeat' (first | (with_reducible exact Below.refl _ _) | (with_reducible assumption) | (with_reducible refine Below.alloc ?_ ?_ _) | (with_reducible refine Below.drew ?_) | (with_reducible refine drewN_below ?_ _) | (with_reducible refine Below.setCell ?_ ?_ _) | (with_reducible refine below_call (by with_reducible assumption) ?_ ?_) | (first | (with_reducible exact Nat.le_refl _) | (with_reducible assumption) | omega | (simp; done) | (simp; omega))))⟩

set_option maxHeartbeats 400000 in
theorem common_any (a b : Int) (ha : Word a) (hb : Word b) (w : World) :
    Calls Tryd.prog 43 #[.int .u64 a, .int .u64 b] w fun e w' => e = .returned (.int .u64 (gcdV a b)) ∧ Below w.heap.size w w' := by
  go_enter Tryd.func43, Tryd.ntmps43
  go_wp2
  go_loopw [0, 1] (fun s t wr => ∃ x y : Int, Word x ∧ Word y ∧ s = .int .u64 x ∧ t = .int .u64 y ∧ gcdV x y = gcdV a b ∧ Below w.heap.size w wr) (fun _ t _ => (intOf t).toNat)
  case atStart => exact ⟨a, b, ha, hb, rfl, rfl, rfl, Below.refl _ _⟩
  case round =>
    obtain ⟨x, y, hx, hy, rfl, rfl, hg, hB⟩ := hrel
    by_cases hlt : 0 < y
    · have hs := gcdV_step x y hx.1 hlt
      have HG := Lib.hid hg; have HS := Lib.hid hs; clear hg hs
      have hx' := hx; have hy' := hy
      obtain ⟨x0, x1⟩ := hx; obtain ⟨y0, y1⟩ := hy
      have hne : (y == 0) = false := beq_eq_false_iff_ne.2 (by omega)
      have hm0 := Int.emod_nonneg x (show y ≠ 0 by omega)
      have hm1 := Int.emod_lt_of_pos x hlt
      go_wp2
      go_quiet (fail)
      go_wp2
      go_roundw
      case rel => exact ⟨y, x % y, hy', ⟨hm0, by omega⟩, rfl, rfl, by rw [HS.out, HG.out], below_drewN hB _⟩
      case measure => simp [intOf]; omega
    · have hy0 : y = 0 := by unfold Word at hy; omega
      subst hy0
      rw [gcdV_zero x hx.1] at hg
      have HG := Lib.hid hg; clear hg
      go_wp2
      go_ret
      exact ⟨ret_int HG.out, hB⟩

set_option maxHeartbeats 1000000 in
theorem plowest_any (h l d : Int) (h1 : Word h) (h2 : Word l) (h3 : Word d) (h4 : 0 < d) (w : World) :
    Calls Tryd.prog 26 #[.agg #[.int .u64 h, .int .u64 l], .int .u64 d] w fun e w' => e = .returned (.agg #[.int .u64 (hiOf (num h l / lowG (num h l) d)), .int .u64 (loOf (num h l / lowG (num h l) d)), .int .u64 (d / lowG (num h l) d)]) ∧ Below w.heap.size w w' := by
  have hr0 := Int.emod_nonneg (num h l) (show d ≠ 0 by omega)
  have hr1 := Int.emod_lt_of_pos (num h l) h4
  have hr : Word (num h l % d) := by unfold Word at h3 ⊢; omega
  have hg : lowG (num h l) d = gcdV d (num h l % d) := rfl
  have hgp : 0 < gcdV d (num h l % d) := gcdV_pos h4
  have hgw := gcdV_word d (num h l % d) h3 hr
  have HG := fun w => common_any d (num h l % d) h3 hr w
  rw [← hg] at hgp hgw HG
  generalize lowG (num h l) d = g at *
  clear hg
  have HD := fun w => by_any h l d h1 h2 h3 h4 w
  have HQ := fun w => by_any h l g h1 h2 hgw hgp w
  have hx : IntKind.u64.wrap (d.tdiv g) = d / g := tdiv_wrap h3.1 h3.2 hgp
  generalize num h l / g = q at *
  generalize num h l % g = q' at *
  generalize num h l / d = r1 at *
  generalize num h l % d = r at *
  generalize d / g = x at *
  have hg0 : ¬ g = 0 := by omega
  go_enter Tryd.func26, Tryd.ntmps26
  go_wp2_with fail
  refine (HD _).mono ?_; rintro e w1 ⟨rfl, hB1⟩; obtain ⟨hc1, hf1⟩ := keep hB1; have hz1 := hB1.size; try simp at hz1
  go_wp2_with fail
  refine (HG _).mono ?_; rintro e w2 ⟨rfl, hB2⟩; obtain ⟨hc2, hf2⟩ := keep hB2; have hz2 := hB2.size; try simp at hz2
  go_wp2_with fail
  refine (HQ _).mono ?_; rintro e w3 ⟨rfl, hB3⟩; obtain ⟨hc3, hf3⟩ := keep hB3; have hz3 := hB3.size; try simp at hz3
  go_wp2_with fail
  go_region
  go_wp2
  exact bodyPost_ret (v := .agg #[.int .u64 (hiOf q), .int .u64 (loOf q), .int .u64 x]) (by simp [*, results, Tryd.results26, go_sem]) rfl ⟨rfl, by (repeat' (first | (with_reducible exact Below.refl _ _) | (with_reducible assumption) | (with_reducible refine Below.alloc ?_ ?_ _) | (with_reducible refine Below.drew ?_) | (with_reducible refine drewN_below ?_ _) | (with_reducible refine Below.setCell ?_ ?_ _) | (with_reducible refine below_call (by with_reducible assumption) ?_ ?_) | (first | (with_reducible exact Nat.le_refl _) | (with_reducible assumption) | omega | (simp; done) | (simp; omega))))⟩

set_option maxHeartbeats 400000 in
theorem make_any (h l d : Int) (h1 : Word h) (h2 : Word l) (h3 : Word d) (h4 : 0 < d) (w : World) :
    Calls Tryd.prog 10 #[.agg #[.int .u64 h, .int .u64 l], .int .u64 d] w fun e w' => e = .returned (.tuple #[.agg #[.int .u64 (hiOf (num h l / lowG (num h l) d)), .int .u64 (loOf (num h l / lowG (num h l) d)), .int .u64 (d / lowG (num h l) d)], .nilIface]) ∧ Below w.heap.size w w' := by
  have HL := fun w => plowest_any h l d h1 h2 h3 h4 w
  generalize hiOf (num h l / lowG (num h l) d) = x at *
  generalize loOf (num h l / lowG (num h l) d) = y at *
  generalize d / lowG (num h l) d = z at *
  have hd : ¬ d = 0 := by omega
  go_enter Tryd.func10, Tryd.ntmps10
  go_wp2_with fail
  refine (HL _).mono ?_; rintro e w1 ⟨rfl, hB1⟩; obtain ⟨hc1, hf1⟩ := keep hB1; have hz1 := hB1.size; try simp at hz1
  go_wp2
  exact bodyPost_ret (v := .tuple #[.agg #[.int .u64 x, .int .u64 y, .int .u64 z], .nilIface]) (by simp [*, results, Tryd.results10, go_sem]) rfl ⟨rfl, by (repeat' (first | (with_reducible exact Below.refl _ _) | (with_reducible assumption) | (with_reducible refine Below.alloc ?_ ?_ _) | (with_reducible refine Below.drew ?_) | (with_reducible refine drewN_below ?_ _) | (with_reducible refine Below.setCell ?_ ?_ _) | (with_reducible refine below_call (by with_reducible assumption) ?_ ?_) | (first | (with_reducible exact Nat.le_refl _) | (with_reducible assumption) | omega | (simp; done) | (simp; omega))))⟩
set_option maxHeartbeats 400000 in
theorem make_no (h l : Int) (w : World) :
    Calls Tryd.prog 10 #[.agg #[.int .u64 h, .int .u64 l], .int .u64 0] w fun e w' => e = .returned (.tuple #[.agg #[.int .u64 0, .int .u64 0, .int .u64 0], .iface 53 (.int .i64 1)]) ∧ Below w.heap.size w w' := by
  go_enter Tryd.func10, Tryd.ntmps10
  go_wp2
  exact bodyPost_ret (v := .tuple #[.agg #[.int .u64 0, .int .u64 0, .int .u64 0], .iface 53 (.int .i64 1)]) (by simp [*, results, Tryd.results10, go_sem]) rfl ⟨rfl, by (repeat' (first | (with_reducible exact Below.refl _ _) | (with_reducible assumption) | (with_reducible refine Below.alloc ?_ ?_ _) | (with_reducible refine Below.drew ?_) | (with_reducible refine drewN_below ?_ _) | (with_reducible refine Below.setCell ?_ ?_ _) | (with_reducible refine below_call (by with_reducible assumption) ?_ ?_) | (first | (with_reducible exact Nat.le_refl _) | (with_reducible assumption) | omega | (simp; done) | (simp; omega))))⟩
end Go.Proofs.YthamagnlpndnoaaDoor
