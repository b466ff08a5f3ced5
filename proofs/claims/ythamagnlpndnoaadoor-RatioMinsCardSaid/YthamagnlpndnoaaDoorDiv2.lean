/- pergolaref1: Div. -/
import Derived.Test.YthamagnlpndnoaaDoorDiv
import Derived.Test.YthamagnlpndnoaaDoorTimes
import Derived.Test.YthamagnlpndnoaaDoorDivMath
namespace Go.Proofs.YthamagnlpndnoaaDoor
open Go.RowKit

theorem shr_word {x : Int} (h : Word x) (k : Nat) : Word (x / 2 ^ k) := by
  have hp := pow_pos2 k
  refine ⟨Int.ediv_nonneg h.1 (Int.le_of_lt hp), ?_⟩
  have := Int.ediv_le_self (b := 2 ^ k) h.1
  have := h.2
  omega

theorem Blk.new' {w : World} {n : Nat} (t : TypeId) (cs : Array Value) (h : n = w.heap.size) : Blk (w.alloc (.cells cs t)) n t cs := h ▸ Blk.new w t cs
theorem Blk.alloc {w : World} {g : Nat} {t : TypeId} {cs : Array Value} (h : Blk w g t cs) (x : Obj) : Blk (w.alloc x) g t cs := by
  have hl := h.lt
  unfold Blk at h ⊢
  rw [Below.heap_alloc _ _ _ hl]; exact h

theorem Blk.setO {w : World} {g : Nat} {t : TypeId} {cs : Array Value} (h : Blk w g t cs) {b : Nat} (hb : b ≠ g) (o : Nat) (u : Value) : Blk (w.setCell ⟨b, o, none⟩ u) g t cs := by
  unfold Blk at h ⊢
  simp [World.setCell, Array.getElem?_modify, h, hb]

set_option maxHeartbeats 4000000 in
theorem div_any (ah al d : Int) (h1 : Word ah) (h2 : Word al) (h3 : Word d) (h4 : 0 < d) (w : World) :
    Calls Tryd.prog 30 #[.agg #[.int .u64 ah, .int .u64 al], .int .u64 d] w fun e w' => e = .returned (.tuple #[.agg #[.int .u64 (hiOf (num ah al / d)), .int .u64 (loOf (num ah al / d))], .int .u64 (num ah al % d)]) ∧ Below w.heap.size w w' := by
  go_enter Tryd.func30, Tryd.ntmps30
  go_wp2
  go_loopw [7, 8] (fun s t wr => ∃ (k : Nat) (R qH qL : Int), k ≤ 128 ∧ s = .int .u64 R ∧ t = .int .i64 ((k : Int) - 1) ∧ Word R ∧ Word qH ∧ Word qL ∧ DivAt (num ah al) d k R qH qL ∧ Blk wr (w.heap.size + 1 + 1) 35 #[.int .u64 qH, .int .u64 qL] ∧ Blk wr (w.heap.size + 1) 35 #[.int .u64 0, .int .u64 0] ∧ Below w.heap.size w wr ∧ wr.cell? ⟨w.heap.size, 0, none⟩ = some (.int .u64 ah) ∧ wr.cell? ⟨w.heap.size, 1, none⟩ = some (.int .u64 al) ∧ (∀ i, wr.frozen? ⟨w.heap.size, i, none⟩ = false)) (fun _ t _ => (intOf t + 1).toNat)
  case atStart =>
    refine ⟨128, 0, 0, 0, Nat.le_refl _, rfl, rfl, ⟨by decide, by decide⟩, ⟨by decide, by decide⟩, ⟨by decide, by decide⟩, DivAt.start (num_big h1 h2), ?_, ?_, by (repeat' (first | (with_reducible exact Below.refl _ _) | (with_reducible assumption) | (with_reducible refine Below.alloc ?_ ?_ _) | (with_reducible refine Below.drew ?_) | (with_reducible refine drewN_below ?_ _) | (with_reducible refine Below.setCell ?_ ?_ _) | (with_reducible refine below_call (by with_reducible assumption) ?_ ?_) | (first | (with_reducible exact Nat.le_refl _) | (with_reducible assumption) | omega | (simp; done) | (simp; omega)))), by go_simp, by go_simp, by intro i; go_simp⟩
    · exact Blk.new' _ _ (by simp)
    · exact (Blk.new' _ _ (by simp)).alloc _
  case round =>
    obtain ⟨k, R, qH, qL, hk, rfl, rfl, hR, hqH, hqL, hI, hblk, hres, hB, hca, hcb, hfa⟩ := hrel
    have hb0 := hblk.cell 0
    have hb1 := hblk.cell 1
    have hf0 := hblk.frozen 0
    have hf1 := hblk.frozen 1
    have hr0 := hres.cell 0
    have hr1 := hres.cell 1
    have hg0 := hres.frozen 0
    have hg1 := hres.frozen 1
    simp at hb0 hb1 hr0 hr1
    have HB := Lib.hid hblk; have HS := Lib.hid hres
    clear hblk hres
    have hzz := hB.size
    cases k with
    | zero =>
      obtain ⟨e1, e2, e3⟩ := hI.done hqH hqL
      have E1 := Lib.hid e1; have E2 := Lib.hid e2; have E3 := Lib.hid e3
      clear e1 e2 e3 hI
      go_wp2
      exact bodyPost_ret (v := .tuple #[.agg #[.int .u64 qH, .int .u64 qL], .int .u64 R]) (by simp [*, results, Tryd.results30, go_sem]) rfl ⟨by rw [← E1.out, ← E2.out, ← E3.out], by (repeat' (first | (with_reducible exact Below.refl _ _) | (with_reducible assumption) | (with_reducible refine Below.alloc ?_ ?_ _) | (with_reducible refine Below.drew ?_) | (with_reducible refine drewN_below ?_ _) | (with_reducible refine Below.setCell ?_ ?_ _) | (with_reducible refine below_call (by with_reducible assumption) ?_ ?_) | (first | (with_reducible exact Nat.le_refl _) | (with_reducible assumption) | omega | (simp; done) | (simp; omega))))⟩
    | succ j =>
      have hjj : ((j + 1 : Nat) : Int) - 1 = (j : Int) := by omega
      rw [hjj]
      clear hjj
      by_cases h64 : 64 ≤ j
      · have hbit := bit_val (ah / 2 ^ (j - 64)) (shr_word h1 _)
        have hbN : ah / 2 ^ (j - 64) % 2 = num ah al / 2 ^ j % 2 := (bit_hi h2 h64).symm
        have hb01 : 0 ≤ ah / 2 ^ (j - 64) % 2 ∧ ah / 2 ^ (j - 64) % 2 ≤ 1 := by omega
        generalize ah / 2 ^ (j - 64) % 2 = b at hbit hb01 hbN
        have hor := or1 R b hb01
        by_cases hx : R * 2 + b < d
        · have e : (R * 2 + b) % 18446744073709551616 = R * 2 + b := by unfold Word at hR h3; omega
          rw [e] at hor
          have ht : ¬ R / 9223372036854775808 = 1 := by unfold Word at hR h3; omega
          have hn := DivAt.low h4 hI hbN hx
          have hw : Word (R * 2 + b) := by unfold Word at hR h3 ⊢; omega
          generalize R * 2 + b = x at hor hx hn hw
          have HR := Lib.hid hR; have HN := Lib.hid hn; have HW := Lib.hid hw; have HI := Lib.hid hI; have HBN := Lib.hid hbN
          clear hR hn e hw hI hbN
          go_wp2
          go_roundw
          case rel => exact ⟨j, x, qH, qL, by omega, rfl, by go_num, HW.out, hqH, hqL, HN.out, HB.out, HS.out, hB, hca, hcb, hfa⟩
          case measure => simp [intOf] <;> omega
        · have hx : d ≤ R * 2 + b := by omega
          by_cases ht0 : 18446744073709551616 ≤ R * 2 + b
          · have ht : R / 9223372036854775808 = 1 := by unfold Word at hR h3; omega
            have hbd := hI.bd h4
            have hw : Word (R * 2 + b - d) := by unfold Word at hR h3 ⊢; omega
            have hs : IntKind.u64.wrap ((R * 2 + b) % 18446744073709551616 - d) = R * 2 + b - d := by rw [IntKind.wrap_u64]; unfold Word at hR h3; omega
            obtain ⟨l1, l2, l3⟩ := lay_hi hI hqH hqL h64 (by omega)
            have hn := DivAt.high h4 hI hbN hx l3
            generalize qH + 2 ^ (j - 64) = z at l1 l2 l3 hn
            generalize R * 2 + b - d = y at hs hn hw
            generalize (R * 2 + b) % 18446744073709551616 = x at hor hs
            have HR := Lib.hid hR; have HN := Lib.hid hn; have HW := Lib.hid hw; have HI := Lib.hid hI; have HBN := Lib.hid hbN; have HX := Lib.hid hx; have L2 := Lib.hid l2; have L3 := Lib.hid l3
            clear hR hn hw hI hbN hx hbd l2 l3 ht0
            go_wp2
            go_region
            go_wp2
            go_roundw
            case rel => exact ⟨j, y, z, qL, by omega, rfl, by go_num, HW.out, L2.out, hqL, HN.out, (HB.out.set_ 0 _).drewN 1, (HS.out.setO (by omega) _ _).drewN 1, by (repeat' (first | (with_reducible exact Below.refl _ _) | (with_reducible assumption) | (with_reducible refine Below.alloc ?_ ?_ _) | (with_reducible refine Below.drew ?_) | (with_reducible refine drewN_below ?_ _) | (with_reducible refine Below.setCell ?_ ?_ _) | (with_reducible refine below_call (by with_reducible assumption) ?_ ?_) | (first | (with_reducible exact Nat.le_refl _) | (with_reducible assumption) | omega | (simp; done) | (simp; omega)))), by simp [hca, go_sem], by simp [hcb, go_sem], by intro i; simp [hfa, go_sem]⟩
            case measure => simp [intOf] <;> omega
          · have ht : ¬ R / 9223372036854775808 = 1 := by unfold Word at hR h3; omega
            have hbd := hI.bd h4
            have hw : Word (R * 2 + b - d) := by unfold Word at hR h3 ⊢; omega
            have hs : IntKind.u64.wrap ((R * 2 + b) % 18446744073709551616 - d) = R * 2 + b - d := by rw [IntKind.wrap_u64]; unfold Word at hR h3; omega
            have hle : d ≤ (R * 2 + b) % 18446744073709551616 := by unfold Word at hR h3; omega
            obtain ⟨l1, l2, l3⟩ := lay_hi hI hqH hqL h64 (by omega)
            have hn := DivAt.high h4 hI hbN hx l3
            generalize qH + 2 ^ (j - 64) = z at l1 l2 l3 hn
            generalize R * 2 + b - d = y at hs hn hw
            generalize (R * 2 + b) % 18446744073709551616 = x at hor hs hle
            have HR := Lib.hid hR; have HN := Lib.hid hn; have HW := Lib.hid hw; have HI := Lib.hid hI; have HBN := Lib.hid hbN; have HX := Lib.hid hx; have L2 := Lib.hid l2; have L3 := Lib.hid l3
            clear hR hn hw hI hbN hx hbd l2 l3 ht0
            go_wp2
            go_region
            go_wp2
            go_roundw
            case rel => exact ⟨j, y, z, qL, by omega, rfl, by go_num, HW.out, L2.out, hqL, HN.out, (HB.out.set_ 0 _).drewN 1, (HS.out.setO (by omega) _ _).drewN 1, by (repeat' (first | (with_reducible exact Below.refl _ _) | (with_reducible assumption) | (with_reducible refine Below.alloc ?_ ?_ _) | (with_reducible refine Below.drew ?_) | (with_reducible refine drewN_below ?_ _) | (with_reducible refine Below.setCell ?_ ?_ _) | (with_reducible refine below_call (by with_reducible assumption) ?_ ?_) | (first | (with_reducible exact Nat.le_refl _) | (with_reducible assumption) | omega | (simp; done) | (simp; omega)))), by simp [hca, go_sem], by simp [hcb, go_sem], by intro i; simp [hfa, go_sem]⟩
            case measure => simp [intOf] <;> omega
      · have hm : min j 64 = j := by omega
        have hbit := bit_val (al / 2 ^ j) (shr_word h2 _)
        have hbN : al / 2 ^ j % 2 = num ah al / 2 ^ j % 2 := (bit_lo (by omega)).symm
        have hb01 : 0 ≤ al / 2 ^ j % 2 ∧ al / 2 ^ j % 2 ≤ 1 := by omega
        generalize al / 2 ^ j % 2 = b at hbit hb01 hbN
        have hor := or1 R b hb01
        by_cases hx : R * 2 + b < d
        · have e : (R * 2 + b) % 18446744073709551616 = R * 2 + b := by unfold Word at hR h3; omega
          rw [e] at hor
          have ht : ¬ R / 9223372036854775808 = 1 := by unfold Word at hR h3; omega
          have hn := DivAt.low h4 hI hbN hx
          have hw : Word (R * 2 + b) := by unfold Word at hR h3 ⊢; omega
          generalize R * 2 + b = x at hor hx hn hw
          have HR := Lib.hid hR; have HN := Lib.hid hn; have HW := Lib.hid hw; have HI := Lib.hid hI; have HBN := Lib.hid hbN
          clear hR hn e hw hI hbN
          go_wp2
          go_roundw
          case rel => exact ⟨j, x, qH, qL, by omega, rfl, by go_num, HW.out, hqH, hqL, HN.out, HB.out, HS.out, hB, hca, hcb, hfa⟩
          case measure => simp [intOf] <;> omega
        · have hx : d ≤ R * 2 + b := by omega
          by_cases ht0 : 18446744073709551616 ≤ R * 2 + b
          · have ht : R / 9223372036854775808 = 1 := by unfold Word at hR h3; omega
            have hbd := hI.bd h4
            have hw : Word (R * 2 + b - d) := by unfold Word at hR h3 ⊢; omega
            have hs : IntKind.u64.wrap ((R * 2 + b) % 18446744073709551616 - d) = R * 2 + b - d := by rw [IntKind.wrap_u64]; unfold Word at hR h3; omega
            obtain ⟨l1, l2, l3⟩ := lay_lo (qH := qH) hI hqL (by omega)
            have hn := DivAt.high h4 hI hbN hx l3
            generalize qL + 2 ^ j = z at l1 l2 l3 hn
            generalize R * 2 + b - d = y at hs hn hw
            generalize (R * 2 + b) % 18446744073709551616 = x at hor hs
            have HR := Lib.hid hR; have HN := Lib.hid hn; have HW := Lib.hid hw; have HI := Lib.hid hI; have HBN := Lib.hid hbN; have HX := Lib.hid hx; have L2 := Lib.hid l2; have L3 := Lib.hid l3
            clear hR hn hw hI hbN hx hbd l2 l3 ht0
            go_wp2
            go_region
            go_wp2
            go_roundw
            case rel => exact ⟨j, y, qH, z, by omega, rfl, by go_num, HW.out, hqH, L2.out, HN.out, (HB.out.set_ 1 _).drewN 1, (HS.out.setO (by omega) _ _).drewN 1, by (repeat' (first | (with_reducible exact Below.refl _ _) | (with_reducible assumption) | (with_reducible refine Below.alloc ?_ ?_ _) | (with_reducible refine Below.drew ?_) | (with_reducible refine drewN_below ?_ _) | (with_reducible refine Below.setCell ?_ ?_ _) | (with_reducible refine below_call (by with_reducible assumption) ?_ ?_) | (first | (with_reducible exact Nat.le_refl _) | (with_reducible assumption) | omega | (simp; done) | (simp; omega)))), by simp [hca, go_sem], by simp [hcb, go_sem], by intro i; simp [hfa, go_sem]⟩
            case measure => simp [intOf] <;> omega
          · have ht : ¬ R / 9223372036854775808 = 1 := by unfold Word at hR h3; omega
            have hbd := hI.bd h4
            have hw : Word (R * 2 + b - d) := by unfold Word at hR h3 ⊢; omega
            have hs : IntKind.u64.wrap ((R * 2 + b) % 18446744073709551616 - d) = R * 2 + b - d := by rw [IntKind.wrap_u64]; unfold Word at hR h3; omega
            have hle : d ≤ (R * 2 + b) % 18446744073709551616 := by unfold Word at hR h3; omega
            obtain ⟨l1, l2, l3⟩ := lay_lo (qH := qH) hI hqL (by omega)
            have hn := DivAt.high h4 hI hbN hx l3
            generalize qL + 2 ^ j = z at l1 l2 l3 hn
            generalize R * 2 + b - d = y at hs hn hw
            generalize (R * 2 + b) % 18446744073709551616 = x at hor hs hle
            have HR := Lib.hid hR; have HN := Lib.hid hn; have HW := Lib.hid hw; have HI := Lib.hid hI; have HBN := Lib.hid hbN; have HX := Lib.hid hx; have L2 := Lib.hid l2; have L3 := Lib.hid l3
            clear hR hn hw hI hbN hx hbd l2 l3 ht0
            go_wp2
            go_region
            go_wp2
            go_roundw
            case rel => exact ⟨j, y, qH, z, by omega, rfl, by go_num, HW.out, hqH, L2.out, HN.out, (HB.out.set_ 1 _).drewN 1, (HS.out.setO (by omega) _ _).drewN 1, by (repeat' (first | (with_reducible exact Below.refl _ _) | (with_reducible assumption) | (with_reducible refine Below.alloc ?_ ?_ _) | (with_reducible refine Below.drew ?_) | (with_reducible refine drewN_below ?_ _) | (with_reducible refine Below.setCell ?_ ?_ _) | (with_reducible refine below_call (by with_reducible assumption) ?_ ?_) | (first | (with_reducible exact Nat.le_refl _) | (with_reducible assumption) | omega | (simp; done) | (simp; omega)))), by simp [hca, go_sem], by simp [hcb, go_sem], by intro i; simp [hfa, go_sem]⟩
            case measure => simp [intOf] <;> omega
end Go.Proofs.YthamagnlpndnoaaDoor
