/- pergolaref3.Grow. -/
import Derived.Test.YtandehgdmefpaaaRefUnion
namespace Go.Proofs.Ytandehgdmefpaaa
open Go.RowKit

theorem runion2 (W : World) (b : Nat) (hb : b = W.heap.size) (t : TypeId) (a1 a2 a3 a4 b1 b2 b3 b4 : Int) :
    Calls Try.prog 35 #[.slice (some ⟨b, 0, none⟩) 2 2] (W.alloc (.cells #[.int .i64 a1, .int .i64 a2, .int .i64 a3, .int .i64 a4, .int .i64 b1, .int .i64 b2, .int .i64 b3, .int .i64 b4] t)) fun e w' =>
      e = .returned (.tuple #[.agg #[.int .i64 (unionV [(a1, a2, a3, a4), (b1, b2, b3, b4)]).1, .int .i64 (unionV [(a1, a2, a3, a4), (b1, b2, b3, b4)]).2.1, .int .i64 (unionV [(a1, a2, a3, a4), (b1, b2, b3, b4)]).2.2.1, .int .i64 (unionV [(a1, a2, a3, a4), (b1, b2, b3, b4)]).2.2.2], .int .i64 (unionE [(a1, a2, a3, a4), (b1, b2, b3, b4)])]) ∧
      Below (W.alloc (.cells #[.int .i64 a1, .int .i64 a2, .int .i64 a3, .int .i64 a4, .int .i64 b1, .int .i64 b2, .int .i64 b3, .int .i64 b4] t)).heap.size (W.alloc (.cells #[.int .i64 a1, .int .i64 a2, .int .i64 a3, .int .i64 a4, .int .i64 b1, .int .i64 b2, .int .i64 b3, .int .i64 b4] t)) w' :=
  runion_any b 0 2 2 [(a1, a2, a3, a4), (b1, b2, b3, b4)] _ (by simp) (by simp) (by simp) (by simp) (by simp [hb]) (by subst hb; intro i hi; match i, hi with | 0, _ => simp | 1, _ => simp)

set_option maxHeartbeats 1000000 in
theorem rgrow_any (a1 a2 a3 a4 b1 b2 b3 b4 : Int) (w : World) :
    Calls Try.prog 40 #[.agg #[.int .i64 a1, .int .i64 a2, .int .i64 a3, .int .i64 a4], .agg #[.int .i64 b1, .int .i64 b2, .int .i64 b3, .int .i64 b4]] w fun e w' => e = .returned (.agg #[.int .u64 (hiOf (growN (a1, a2, a3, a4) (b1, b2, b3, b4))), .int .u64 (loOf (growN (a1, a2, a3, a4) (b1, b2, b3, b4)))]) ∧ Below w.heap.size w w' := by
  by_cases h : boxB (a1, a2, a3, a4) = true ∧ boxB (b1, b2, b3, b4) = true
  · have e1 : growN (a1, a2, a3, a4) (b1, b2, b3, b4) = areaN (uni (a1, a2, a3, a4) (b1, b2, b3, b4)) - areaN (a1, a2, a3, a4) := by unfold growN; rw [if_pos h]
    rw [e1]; clear e1
    have e2 := unionV2 _ _ h.1 h.2
    have e3 : unionE [(a1, a2, a3, a4), (b1, b2, b3, b4)] = 0 := by rw [unionE2, if_pos h.1, if_pos h.2]
    have g1 := areaN_big (uni (a1, a2, a3, a4) (b1, b2, b3, b4))
    have g2 := areaN_big (a1, a2, a3, a4)
    generalize hu : uni (a1, a2, a3, a4) (b1, b2, b3, b4) = u at *
    obtain ⟨u1, u2, u3, u4⟩ := u
    clear hu h
    go_enter Try.func40, Try.ntmps40
    go_wp2_with fail
    refine (runion2 _ _ (by simp) _ _ _ _ _ _ _ _ _).mono ?_; rintro e w1 ⟨rfl, hB1⟩; obtain ⟨hc1, hf1⟩ := keep hB1; have hz1 := hB1.size; try simp at hz1
    rw [e2, e3]
    go_wp2_with fail
    go_region_held3 (fun z => z.cell? ⟨w.heap.size, 0, none⟩ = some (.int .i64 a1) ∧ z.cell? ⟨w.heap.size, 1, none⟩ = some (.int .i64 a2) ∧ z.cell? ⟨w.heap.size, 2, none⟩ = some (.int .i64 a3) ∧ z.cell? ⟨w.heap.size, 3, none⟩ = some (.int .i64 a4)
        ∧ z.cell? ⟨w1.heap.size, 0, none⟩ = some (.int .i64 u1) ∧ z.cell? ⟨w1.heap.size, 1, none⟩ = some (.int .i64 u2) ∧ z.cell? ⟨w1.heap.size, 2, none⟩ = some (.int .i64 u3) ∧ z.cell? ⟨w1.heap.size, 3, none⟩ = some (.int .i64 u4)) (simp [*, go_sem])
      (first | (go_at_call 39; refine (rarea_any _ _ _ _ _).mono ?_; rintro e w' ⟨rfl, hB⟩; obtain ⟨hc, hf⟩ := keep hB; have hz := hB.size; try simp at hz) | (go_at_call 54; refine (rsub_big _ _ g1 g2 _).mono ?_; rintro e w' ⟨rfl, hB⟩; obtain ⟨hc, hf⟩ := keep hB; have hz := hB.size; try simp at hz))
    all_goals
      go_wp2
      exact bodyPost_ret (v := .agg #[.int .u64 (hiOf (areaN (u1, u2, u3, u4) - areaN (a1, a2, a3, a4))), .int .u64 (loOf (areaN (u1, u2, u3, u4) - areaN (a1, a2, a3, a4)))]) (by simp [*, results, Try.results40, go_sem]) rfl ⟨rfl, by (repeat' (first | (with_reducible exact Below.refl _ _) | (with_reducible assumption) | (with_reducible refine Below.alloc ?_ ?_ _) | (with_reducible refine Below.drew ?_) | (with_reducible refine Below.setCell ?_ ?_ _) | (with_reducible refine below_call (by with_reducible assumption) ?_ ?_) | (first | (with_reducible exact Nat.le_refl _) | (with_reducible assumption) | omega | (simp; done) | (simp; omega))))⟩
  · have e1 : growN (a1, a2, a3, a4) (b1, b2, b3, b4) = 0 := by unfold growN; rw [if_neg h]
    rw [e1, show hiOf 0 = 0 from rfl, show loOf 0 = 0 from rfl]; clear e1
    have e2 : (unionE [(a1, a2, a3, a4), (b1, b2, b3, b4)] == 0) = false := by
      rw [unionE2]
      cases h1 : boxB (a1, a2, a3, a4)
      · rw [if_neg (by simp)]; exact codeB_ne h1
      · cases h2 : boxB (b1, b2, b3, b4)
        · rw [if_pos rfl, if_neg (by simp)]; exact codeB_ne h2
        · exact absurd ⟨h1, h2⟩ h
    have e4 : unionV [(a1, a2, a3, a4), (b1, b2, b3, b4)] = b40 := by unfold unionV; rw [if_neg (by simpa using e2)]
    have e5 : ¬ unionE [(a1, a2, a3, a4), (b1, b2, b3, b4)] = 0 := by simpa using e2
    generalize hE : unionE [(a1, a2, a3, a4), (b1, b2, b3, b4)] = E at *
    clear h e2
    go_enter Try.func40, Try.ntmps40
    go_wp2_with fail
    refine (runion2 _ _ (by simp) _ _ _ _ _ _ _ _ _).mono ?_; rintro e w1 ⟨rfl, hB1⟩; obtain ⟨hc1, hf1⟩ := keep hB1; have hz1 := hB1.size; try simp at hz1
    rw [e4, hE]
    go_wp2_with fail
    exact bodyPost_ret (v := .agg #[.int .u64 0, .int .u64 0]) (by simp [*, results, Try.results40, go_sem]) rfl ⟨rfl, by (repeat' (first | (with_reducible exact Below.refl _ _) | (with_reducible assumption) | (with_reducible refine Below.alloc ?_ ?_ _) | (with_reducible refine Below.drew ?_) | (with_reducible refine Below.setCell ?_ ?_ _) | (with_reducible refine below_call (by with_reducible assumption) ?_ ?_) | (first | (with_reducible exact Nat.le_refl _) | (with_reducible assumption) | omega | (simp; done) | (simp; omega))))⟩
end Go.Proofs.Ytandehgdmefpaaa
