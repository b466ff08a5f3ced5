/- pergolalaw15.awake. -/
import Derived.Test.YtamhngjhgdmgbaaHeapH
namespace Go.Proofs.Ytamhngjhgdmgbaa
open Go.RowKit

def aw (i : Int) : Ent := ⟨i, 0, i, 1, true, 0⟩
theorem aw_word (i : Int) (h : 0 ≤ i ∧ i ≤ 3) : WordE (aw i) := by unfold WordE aw Word; simp; omega
theorem aw_least {p : Psh} {l : List Psh} (h : Least p l) (hl : l = [⟨aw 3, 1⟩, ⟨aw 2, 2⟩, ⟨aw 1, 3⟩]) : p.e.id = 1 := by
  subst hl
  have h1 := h.2 ⟨aw 1, 3⟩ (by simp)
  have hm := h.1
  simp only [List.mem_cons, List.not_mem_nil, or_false] at hm
  rcases hm with rfl | rfl | rfl
  · exact absurd h1 (by unfold leP; decide)
  · exact absurd h1 (by unfold leP; decide)
  · rfl

set_option maxHeartbeats 4000000 in
theorem awake15_any (w : World) :
    Calls Try.prog 8 #[] w fun e w' => e = .returned (.bool true) ∧ Below w.heap.size w w' := by
  go_enter Try.func8, Try.ntmps8
  go_wp2_with (go_at_call 9; refine (newH_any _).mono ?_; rintro e w1 ⟨h, rfl, hH, hB, hh⟩)
  go_loopw [2] (fun s wr => Below w.heap.size w wr ∧ ((s = .int .i64 3 ∧ ∃ v, HeapOf wr w.heap.size h v [] 0) ∨ (s = .int .i64 2 ∧ ∃ v, HeapOf wr w.heap.size h v [⟨aw 3, 1⟩] 1) ∨ (s = .int .i64 1 ∧ ∃ v, HeapOf wr w.heap.size h v [⟨aw 3, 1⟩, ⟨aw 2, 2⟩] 2) ∨ (s = .int .i64 0 ∧ ∃ v, HeapOf wr w.heap.size h v [⟨aw 3, 1⟩, ⟨aw 2, 2⟩, ⟨aw 1, 3⟩] 3))) (fun s _ => (intOf s).toNat)
  case atStart => exact ⟨hB, .inl ⟨rfl, _, hH⟩⟩
  case round =>
    clear hH
    obtain ⟨hB2, ⟨rfl, v, H⟩ | ⟨rfl, v, H⟩ | ⟨rfl, v, H⟩ | ⟨rfl, v, H⟩⟩ := hrel
    · have HC := pushH_any _ h v _ _ (aw 3) wr H (by omega) (by simp) (aw_word 3 (by omega))
      have H' := Lib.hid H; clear H
      go_wp2_with (go_at_call 10; refine HC.mono ?_; rintro e w2 ⟨rfl, v', hv, hk, -⟩)
      go_roundw
      case rel => exact ⟨hB2.trans hk.below, .inr (.inl ⟨rfl, v', hv⟩)⟩
      case measure => simp [intOf]
    · have HC := pushH_any _ h v _ _ (aw 2) wr H (by omega) (by simp) (aw_word 2 (by omega))
      have H' := Lib.hid H; clear H
      go_wp2_with (go_at_call 10; refine HC.mono ?_; rintro e w2 ⟨rfl, v', hv, hk, -⟩)
      go_roundw
      case rel => exact ⟨hB2.trans hk.below, .inr (.inr (.inl ⟨rfl, v', hv⟩))⟩
      case measure => simp [intOf]
    · have HC := pushH_any _ h v _ _ (aw 1) wr H (by omega) (by simp) (aw_word 1 (by omega))
      have H' := Lib.hid H; clear H
      go_wp2_with (go_at_call 10; refine HC.mono ?_; rintro e w2 ⟨rfl, v', hv, hk, -⟩)
      go_roundw
      case rel => exact ⟨hB2.trans hk.below, .inr (.inr (.inr ⟨rfl, v', hv⟩))⟩
      case measure => simp [intOf]
    · have HC := popH_some _ h v _ _ wr H (by simp) (by simp)
      have H' := Lib.hid H; clear H
      go_upto_region 9 with (go_at_call 12; refine HC.mono ?_; rintro e w2 ⟨p, l', v', rfl, hp, hq, hv, hk, -⟩)
      have hid := aw_least hp rfl
      have hlen := hq.length_eq
      have hl2 : l'.length = 2 := by simpa using hlen
      have HL := fun (z : World) (hz : Below w2.heap.size w2 z) => lenH_any _ h v' l' _ z (hv.grow hz)
      rw [hl2] at HL
      rw [hid]
      have hBB := hB2.trans hk.below
      have hs := hBB.size
      clear hp hq hv hk HC hB2 hB hlen
      go_wp2_with (go_at_call 17; refine (HL _ (by (repeat' (first | (with_reducible exact Below.refl _ _) | (with_reducible assumption) | (with_reducible refine Below.alloc ?_ ?_ _) | (with_reducible refine Below.drew ?_) | (with_reducible refine drewN_below ?_ _) | (with_reducible refine Below.setCell ?_ ?_ _) | (with_reducible refine below_call (by with_reducible assumption) ?_ ?_) | (first | (with_reducible exact Nat.le_refl _) | (with_reducible assumption) | omega | (simp; done) | (simp; omega)))))).mono ?_; rintro e w3 ⟨rfl, rfl⟩)
      go_ret
      exact ⟨rfl, by (repeat' (first | (with_reducible exact Below.refl _ _) | (with_reducible assumption) | (with_reducible refine Below.alloc ?_ ?_ _) | (with_reducible refine Below.drew ?_) | (with_reducible refine drewN_below ?_ _) | (with_reducible refine Below.setCell ?_ ?_ _) | (with_reducible refine below_call (by with_reducible assumption) ?_ ?_) | (first | (with_reducible exact Nat.le_refl _) | (with_reducible assumption) | omega | (simp; done) | (simp; omega))))⟩
end Go.Proofs.Ytamhngjhgdmgbaa
