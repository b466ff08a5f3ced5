/- pergolaref1.Sub. -/
import Derived.Test.YtpmnghobcciiaaaDoorRef1A
import Derived.Deep.QuietTactic
import Derived.BigQuiet
namespace Go.Proofs.YtpmnghobcciiaaaDoor
open Go.RowKit

theorem sub_words (ah al bh bl : Int) (h2 : Word al) (h4 : Word bl) :
    (¬ al < bl → loOf (num ah al - num bh bl) = IntKind.u64.wrap (al - bl) ∧ hiOf (num ah al - num bh bl) = IntKind.u64.wrap (ah - bh)) ∧
    (al < bl → loOf (num ah al - num bh bl) = IntKind.u64.wrap (al - bl) ∧ hiOf (num ah al - num bh bl) = IntKind.u64.wrap (IntKind.u64.wrap (ah - bh) - 1)) := by
  simp only [wrap_u64]
  unfold Word at *
  refine ⟨fun h => ?_, fun h => ?_⟩
  · unfold loOf hiOf num; omega
  · unfold loOf hiOf num; omega

set_option maxHeartbeats 1000000 in
theorem rsub_any (ah al bh bl : Int) (h1 : Word ah) (h2 : Word al) (h3 : Word bh) (h4 : Word bl) (w : World) :
    Calls Tryd.prog 23 #[.agg #[.int .u64 ah, .int .u64 al], .agg #[.int .u64 bh, .int .u64 bl]] w fun e w' => e = .returned (.tuple #[.agg #[.int .u64 (hiOf (num ah al - num bh bl)), .int .u64 (loOf (num ah al - num bh bl))], .bool (decide (cmpV (num ah al) (num bh bl) < 0))]) ∧ Below w.heap.size w w' := by
  obtain ⟨k1, k2⟩ := sub_words ah al bh bl h2 h4
  generalize loOf (num ah al - num bh bl) = L at *
  generalize hiOf (num ah al - num bh bl) = U at *
  by_cases hc : al < bl
  · obtain ⟨rfl, rfl⟩ := k2 hc
    clear k1 k2
    go_enter Tryd.func23, Tryd.ntmps23
    go_wp2
    go_region_held3 (fun z => z.cell? ⟨w.heap.size, 0, none⟩ = some (.int .u64 ah) ∧ z.cell? ⟨w.heap.size, 1, none⟩ = some (.int .u64 al) ∧ z.cell? ⟨w.heap.size + 1, 0, none⟩ = some (.int .u64 bh) ∧ z.cell? ⟨w.heap.size + 1, 1, none⟩ = some (.int .u64 bl) ∧ z.cell? ⟨w.heap.size + 1 + 1 + 1, 0, none⟩ = some (.int .u64 (IntKind.u64.wrap (IntKind.u64.wrap (ah - bh) - 1))) ∧ z.cell? ⟨w.heap.size + 1 + 1 + 1, 1, none⟩ = some (.int .u64 (IntKind.u64.wrap (al - bl)))) (simp [*, go_sem])
      (first | (go_at_call 24; refine (rcompare_any _ _ _ _ h1 h2 h3 h4 _).mono ?_; rintro e w' ⟨rfl, hB⟩; obtain ⟨hc, hf⟩ := keep hB; have hz := hB.size; try simp at hz))
    go_wp2
    exact bodyPost_ret (v := .tuple #[.agg #[.int .u64 (IntKind.u64.wrap (IntKind.u64.wrap (ah - bh) - 1)), .int .u64 (IntKind.u64.wrap (al - bl))], .bool (decide (cmpV (num ah al) (num bh bl) < 0))]) (by simp [*, results, Tryd.results23, go_sem]) rfl ⟨rfl, by (repeat' (first | (with_reducible exact Below.refl _ _) | (with_reducible assumption) | (with_reducible refine Below.alloc ?_ ?_ _) | (with_reducible refine Below.drew ?_) | (with_reducible refine drewN_below ?_ _) | (with_reducible refine Below.setCell ?_ ?_ _) | (with_reducible refine below_call (by with_reducible assumption) ?_ ?_) | (first | (with_reducible exact Nat.le_refl _) | (with_reducible assumption) | omega | (simp; done) | (simp; omega))))⟩
  · obtain ⟨rfl, rfl⟩ := k1 hc
    clear k1 k2
    go_enter Tryd.func23, Tryd.ntmps23
    go_wp2
    go_region_held3 (fun z => z.cell? ⟨w.heap.size, 0, none⟩ = some (.int .u64 ah) ∧ z.cell? ⟨w.heap.size, 1, none⟩ = some (.int .u64 al) ∧ z.cell? ⟨w.heap.size + 1, 0, none⟩ = some (.int .u64 bh) ∧ z.cell? ⟨w.heap.size + 1, 1, none⟩ = some (.int .u64 bl) ∧ z.cell? ⟨w.heap.size + 1 + 1 + 1, 0, none⟩ = some (.int .u64 (IntKind.u64.wrap (ah - bh))) ∧ z.cell? ⟨w.heap.size + 1 + 1 + 1, 1, none⟩ = some (.int .u64 (IntKind.u64.wrap (al - bl)))) (simp [*, go_sem])
      (first | (go_at_call 24; refine (rcompare_any _ _ _ _ h1 h2 h3 h4 _).mono ?_; rintro e w' ⟨rfl, hB⟩; obtain ⟨hc, hf⟩ := keep hB; have hz := hB.size; try simp at hz))
    go_wp2
    exact bodyPost_ret (v := .tuple #[.agg #[.int .u64 (IntKind.u64.wrap (ah - bh)), .int .u64 (IntKind.u64.wrap (al - bl))], .bool (decide (cmpV (num ah al) (num bh bl) < 0))]) (by simp [*, results, Tryd.results23, go_sem]) rfl ⟨rfl, by (repeat' (first | (with_reducible exact Below.refl _ _) | (with_reducible assumption) | (with_reducible refine Below.alloc ?_ ?_ _) | (with_reducible refine Below.drew ?_) | (with_reducible refine drewN_below ?_ _) | (with_reducible refine Below.setCell ?_ ?_ _) | (with_reducible refine below_call (by with_reducible assumption) ?_ ?_) | (first | (with_reducible exact Nat.le_refl _) | (with_reducible assumption) | omega | (simp; done) | (simp; omega))))⟩
theorem rsub_big (m n : Int) (hm : Big m) (hn : Big n) (w : World) :
    Calls Tryd.prog 23 #[.agg #[.int .u64 (hiOf m), .int .u64 (loOf m)], .agg #[.int .u64 (hiOf n), .int .u64 (loOf n)]] w fun e w' => e = .returned (.tuple #[.agg #[.int .u64 (hiOf (m - n)), .int .u64 (loOf (m - n))], .bool (decide (cmpV m n < 0))]) ∧ Below w.heap.size w w' := by
  have h := rsub_any (hiOf m) (loOf m) (hiOf n) (loOf n) (hiOf_word _) (loOf_word _) (hiOf_word _) (loOf_word _) w
  rw [num_hl hm, num_hl hn] at h
  exact h
end Go.Proofs.YtpmnghobcciiaaaDoor
