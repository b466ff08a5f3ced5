/- plane: CheckBox, boxes. -/
import Derived.Test.YtocpdphchignpaaMay
namespace Go.Proofs.Ytocpdphchignpaa
open Go.RowKit

/-- What is wrong with a box: 0: nothing. -/
def boxCode (lx ly hx hy : Int) : Int := if ok2 (lx, ly) (hx, hy) = true then (if hx < lx ∨ hy < ly then 1 else 0) else 2
def errV (n : Int) : Value := if n = 0 then .nilIface else .iface 65 (.int .i64 n)

set_option maxHeartbeats 400000 in
theorem checkBox_any (lx ly hx hy : Int) (w : World) :
    Calls Try.prog 41 #[.agg #[.int .i64 lx, .int .i64 ly, .int .i64 hx, .int .i64 hy]] w fun e w' => e = .returned (errV (boxCode lx ly hx hy)) ∧ Below w.heap.size w w' := by
  cases h : ok2 (lx, ly) (hx, hy)
  · have hv : errV (boxCode lx ly hx hy) = .iface 65 (.int .i64 2) := by simp [boxCode, h, errV]
    rw [hv]; clear hv
    go_enter Try.func41, Try.ntmps41
    go_wp2_with (go_at_call 48; refine (may2 _ _ (by simp) _ _ _ _ _).mono ?_; rintro e w' ⟨rfl, hB⟩; obtain ⟨hc, hf⟩ := keep hB; have hz := hB.size; try simp at hz)
    go_ret
    exact ⟨rfl, by (repeat' (first | (with_reducible exact Below.refl _ _) | (with_reducible assumption) | (with_reducible refine Below.alloc ?_ ?_ _) | (with_reducible refine Below.drew ?_) | (with_reducible refine Below.setCell ?_ ?_ _) | (with_reducible refine below_call (by with_reducible assumption) ?_ ?_) | (first | (with_reducible exact Nat.le_refl _) | (with_reducible assumption) | omega | (simp; done) | (simp; omega))))⟩
  · by_cases h1 : hx < lx
    · have hv : errV (boxCode lx ly hx hy) = .iface 65 (.int .i64 1) := by simp [boxCode, h, errV, h1]
      rw [hv]; clear hv
      go_enter Try.func41, Try.ntmps41
      go_wp2_with (go_at_call 48; refine (may2 _ _ (by simp) _ _ _ _ _).mono ?_; rintro e w' ⟨rfl, hB⟩; obtain ⟨hc, hf⟩ := keep hB; have hz := hB.size; try simp at hz)
      go_ret
      exact ⟨rfl, by (repeat' (first | (with_reducible exact Below.refl _ _) | (with_reducible assumption) | (with_reducible refine Below.alloc ?_ ?_ _) | (with_reducible refine Below.drew ?_) | (with_reducible refine Below.setCell ?_ ?_ _) | (with_reducible refine below_call (by with_reducible assumption) ?_ ?_) | (first | (with_reducible exact Nat.le_refl _) | (with_reducible assumption) | omega | (simp; done) | (simp; omega))))⟩
    · by_cases h2 : hy < ly
      · have hv : errV (boxCode lx ly hx hy) = .iface 65 (.int .i64 1) := by simp [boxCode, h, errV, h2]
        rw [hv]; clear hv
        go_enter Try.func41, Try.ntmps41
        go_wp2_with (go_at_call 48; refine (may2 _ _ (by simp) _ _ _ _ _).mono ?_; rintro e w' ⟨rfl, hB⟩; obtain ⟨hc, hf⟩ := keep hB; have hz := hB.size; try simp at hz)
        go_ret
        exact ⟨rfl, by (repeat' (first | (with_reducible exact Below.refl _ _) | (with_reducible assumption) | (with_reducible refine Below.alloc ?_ ?_ _) | (with_reducible refine Below.drew ?_) | (with_reducible refine Below.setCell ?_ ?_ _) | (with_reducible refine below_call (by with_reducible assumption) ?_ ?_) | (first | (with_reducible exact Nat.le_refl _) | (with_reducible assumption) | omega | (simp; done) | (simp; omega))))⟩
      · have hv : errV (boxCode lx ly hx hy) = .nilIface := by simp [boxCode, h, errV, h1, h2]
        rw [hv]; clear hv
        go_enter Try.func41, Try.ntmps41
        go_wp2_with (go_at_call 48; refine (may2 _ _ (by simp) _ _ _ _ _).mono ?_; rintro e w' ⟨rfl, hB⟩; obtain ⟨hc, hf⟩ := keep hB; have hz := hB.size; try simp at hz)
        go_ret
        exact ⟨rfl, by (repeat' (first | (with_reducible exact Below.refl _ _) | (with_reducible assumption) | (with_reducible refine Below.alloc ?_ ?_ _) | (with_reducible refine Below.drew ?_) | (with_reducible refine Below.setCell ?_ ?_ _) | (with_reducible refine below_call (by with_reducible assumption) ?_ ?_) | (first | (with_reducible exact Nat.le_refl _) | (with_reducible assumption) | omega | (simp; done) | (simp; omega))))⟩

def boxB (b : Int × Int × Int × Int) : Bool := boxCode b.1 b.2.1 b.2.2.1 b.2.2.2 == 0
theorem errV_zero {n : Int} (h : (n == 0) = true) : errV n = .nilIface := by simp at h; simp [errV, h]
theorem errV_ne {n : Int} (h : (n == 0) = false) : errV n = .iface 65 (.int .i64 n) := by simp at h; simp [errV, h]

/-- The boxes stand in block b, one behind the other. -/
def BoxesAt (w : World) (b : Nat) (bs : List (Int × Int × Int × Int)) : Prop :=
  ∀ i, i < bs.length → w.cell? ⟨b, i * 4, none⟩ = some (.int .i64 (bs.getD i (0, 0, 0, 0)).1) ∧ w.cell? ⟨b, i * 4 + 1, none⟩ = some (.int .i64 (bs.getD i (0, 0, 0, 0)).2.1) ∧
    w.cell? ⟨b, i * 4 + 2, none⟩ = some (.int .i64 (bs.getD i (0, 0, 0, 0)).2.2.1) ∧ w.cell? ⟨b, i * 4 + 3, none⟩ = some (.int .i64 (bs.getD i (0, 0, 0, 0)).2.2.2)

set_option maxHeartbeats 400000 in
theorem boxes_any (b n : Nat) (bs : List (Int × Int × Int × Int)) (w : World) (hn : bs.length ≤ n) (hn' : n ≤ bs.length) (hm : n ≤ 1000000) (hb : b < w.heap.size) (hp : BoxesAt w b bs) :
    Calls Try.prog 47 #[.slice (some ⟨b, 0, none⟩) n n] w fun e w' => e = .returned (.bool (bs.all boxB)) ∧ Below w.heap.size w w' := by
  go_enter Try.func47, Try.ntmps47
  go_wp2
  go_loopw [7] (fun t wr => ∃ k : Nat, k ≤ n ∧ t = .int .i64 k ∧ (bs.take k).all boxB = true ∧ Below w.heap.size w wr) (fun t _ => n - (intOf t).toNat)
  case atStart => exact ⟨0, Nat.zero_le _, rfl, by simp, Below.refl _ _⟩
  case round =>
    obtain ⟨k, hk, rfl, ha, hB⟩ := hrel
    by_cases hlt : k < n
    · obtain ⟨h0, h1, h2, h3⟩ := hp k (by omega)
      rw [← hB.cell (p := ⟨b, k * 4, none⟩) hb] at h0
      rw [← hB.cell (p := ⟨b, k * 4 + 1, none⟩) hb] at h1
      rw [← hB.cell (p := ⟨b, k * 4 + 2, none⟩) hb] at h2
      rw [← hB.cell (p := ⟨b, k * 4 + 3, none⟩) hb] at h3
      have hs := all_take_snoc boxB (0, 0, 0, 0) bs k (by omega)
      have hbad := all_of_bad boxB (0, 0, 0, 0) bs k (by omega)
      generalize bs.getD k (0, 0, 0, 0) = p at h0 h1 h2 h3 hs hbad
      obtain ⟨x0, x1, x2, x3⟩ := p
      dsimp only at h0 h1 h2 h3
      have HS := Lib.hid hs; have HB := Lib.hid hbad; have HA := Lib.hid ha
      clear hs hbad ha hp
      cases hc : (boxCode x0 x1 x2 x3 == 0)
      · have hv := errV_ne hc
        have HC := Lib.hid hc; clear hc
        go_wp2_with (go_at_call 41; refine (checkBox_any _ _ _ _ _).mono ?_; rintro e w' ⟨rfl, hB1⟩)
        go_ret
        exact ⟨by rw [HB.out (by simp [boxB, HC.out])]; rfl, by have := hB.size; (repeat' (first | (with_reducible exact Below.refl _ _) | (with_reducible assumption) | (with_reducible refine Below.alloc ?_ ?_ _) | (with_reducible refine Below.drew ?_) | (with_reducible refine Below.setCell ?_ ?_ _) | (with_reducible refine below_call (by with_reducible assumption) ?_ ?_) | (first | (with_reducible exact Nat.le_refl _) | (with_reducible assumption) | omega | (simp; done) | (simp; omega))))⟩
      · have hv := errV_zero hc
        have HC := Lib.hid hc; clear hc
        go_wp2_with (go_at_call 41; refine (checkBox_any _ _ _ _ _).mono ?_; rintro e w' ⟨rfl, hB1⟩)
        go_roundw
        case rel => exact ⟨k + 1, by omega, by go_num, by rw [HS.out, HA.out]; simp [boxB, HC.out], by have := hB.size; (repeat' (first | (with_reducible exact Below.refl _ _) | (with_reducible assumption) | (with_reducible refine Below.alloc ?_ ?_ _) | (with_reducible refine Below.drew ?_) | (with_reducible refine Below.setCell ?_ ?_ _) | (with_reducible refine below_call (by with_reducible assumption) ?_ ?_) | (first | (with_reducible exact Nat.le_refl _) | (with_reducible assumption) | omega | (simp; done) | (simp; omega))))⟩
        case measure => simp [intOf]; omega
    · go_wp2
      go_ret
      refine ⟨?_, hB⟩
      have hkn : k = n := by omega
      subst hkn
      rw [List.take_of_length_le (by omega)] at ha
      rw [ha]; rfl
end Go.Proofs.Ytocpdphchignpaa
