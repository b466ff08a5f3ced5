/- wide.Sub. -/
import Derived.Test.YtpmnghobcciiaaaDoorWide
namespace Go.Proofs.YtpmnghobcciiaaaDoor
open Go.RowKit

set_option maxHeartbeats 400000 in
theorem wsub_any (ah al bh bl : Int) (h1 : Word ah) (h2 : Word al) (h3 : Word bh) (h4 : Word bl) (w : World) :
    Calls Tryd.prog 22 #[.agg #[.int .u64 ah, .int .u64 al], .agg #[.int .u64 bh, .int .u64 bl]] w fun e w' => e = .returned (.tuple #[.agg #[.int .u64 (hiOf (num ah al - num bh bl)), .int .u64 (loOf (num ah al - num bh bl))], .bool (decide (num ah al < num bh bl))]) ∧ Below w.heap.size w w' := by
  obtain ⟨a1, a2⟩ := h1; obtain ⟨b1, b2⟩ := h2; obtain ⟨c1, c2⟩ := h3; obtain ⟨d1, d2⟩ := h4
  have kb := bor_bd al bl
  have e1 : hiOf (num ah al - num bh bl) = (ah - bh - bor al bl) % 18446744073709551616 := by unfold hiOf num bor; omega
  have e2 : loOf (num ah al - num bh bl) = (al - bl) % 18446744073709551616 := by unfold loOf num; omega
  have e3 : decide (num ah al < num bh bl) = (bor ah (bh + bor al bl) != 0) := by
    rw [Bool.eq_iff_iff, bne_iff_ne]; unfold num bor; simp only [decide_eq_true_eq]; omega
  rw [e1, e2, e3]
  clear e1 e2 e3
  obtain ⟨k0, k1⟩ := kb
  go_enter Tryd.func22, Tryd.ntmps22
  go_wp2_with (first | simp only [sub64_0 al bl b1 d1 d2] | simp only [sub64 ah bh _ a1 c1 c2 k0 k1])
  refine bodyPost_ret (v := .tuple #[.agg #[.int .u64 ((ah - bh - bor al bl) % 18446744073709551616), .int .u64 ((al - bl) % 18446744073709551616)], .bool (bor ah (bh + bor al bl) != 0)]) ?_ rfl ⟨rfl, by (repeat' (first | (with_reducible exact Below.refl _ _) | (with_reducible assumption) | (with_reducible refine Below.alloc ?_ ?_ _) | (with_reducible refine Below.drew ?_) | (with_reducible refine drewN_below ?_ _) | (with_reducible refine Below.setCell ?_ ?_ _) | (with_reducible refine below_call (by with_reducible assumption) ?_ ?_) | (first | (with_reducible exact Nat.le_refl _) | (with_reducible assumption) | omega | (simp; done) | (simp; omega))))⟩
  simp [*, results, Tryd.results22, go_sem]

theorem wsub_big (m n : Int) (hm : Big m) (hn : Big n) (w : World) :
    Calls Tryd.prog 22 #[.agg #[.int .u64 (hiOf m), .int .u64 (loOf m)], .agg #[.int .u64 (hiOf n), .int .u64 (loOf n)]] w fun e w' => e = .returned (.tuple #[.agg #[.int .u64 (hiOf (m - n)), .int .u64 (loOf (m - n))], .bool (decide (m < n))]) ∧ Below w.heap.size w w' := by
  have h := wsub_any (hiOf m) (loOf m) (hiOf n) (loOf n) (hiOf_word _) (loOf_word _) (hiOf_word _) (loOf_word _) w
  rw [num_hl hm, num_hl hn] at h
  exact h
end Go.Proofs.YtpmnghobcciiaaaDoor
