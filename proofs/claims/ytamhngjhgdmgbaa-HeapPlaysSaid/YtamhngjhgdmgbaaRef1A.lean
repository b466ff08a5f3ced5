/- pergolaref1: Num, Compare, Add, Sub over two words. -/
import Derived.Test.YtamhngjhgdmgbaaWide
import Derived.BigGuardPart
import Derived.Deep.RegionHeld3
namespace Go.Proofs.Ytamhngjhgdmgbaa
open Go.RowKit

set_option maxRecDepth 100000 in
@[go_sem ↓] theorem eql_ru (a b c d : Int) (w : World) : (binOp .eql 69 (.agg #[.int .u64 a, .int .u64 b]) (.agg #[.int .u64 c, .int .u64 d])).run Try.prog w = .ok (.bool (eq2 a b c d)) w := by
  unfold eq2
  by_cases h1 : a = c <;> by_cases h2 : b = d <;> simp [go_sem, h1, h2]

set_option maxHeartbeats 400000 in
theorem num_any (h l d : Int) (w : World) :
    Calls Try.prog 31 #[.agg #[.int .u64 h, .int .u64 l, .int .u64 d]] w fun e w' => e = .returned (.agg #[.int .u64 h, .int .u64 l]) ∧ Below w.heap.size w w' := by
  go_enter Try.func31, Try.ntmps31
  go_wp2
  exact bodyPost_ret (v := .agg #[.int .u64 h, .int .u64 l]) (by simp [*, results, Try.results31, go_sem]) rfl ⟨rfl, by (repeat' (first | (with_reducible exact Below.refl _ _) | (with_reducible assumption) | (with_reducible refine Below.alloc ?_ ?_ _) | (with_reducible refine Below.drew ?_) | (with_reducible refine drewN_below ?_ _) | (with_reducible refine Below.setCell ?_ ?_ _) | (with_reducible refine below_call (by with_reducible assumption) ?_ ?_) | (first | (with_reducible exact Nat.le_refl _) | (with_reducible assumption) | omega | (simp; done) | (simp; omega))))⟩

set_option maxHeartbeats 1000000 in
theorem rcompare_any (ah al bh bl : Int) (h1 : Word ah) (h2 : Word al) (h3 : Word bh) (h4 : Word bl) (w : World) :
    Calls Try.prog 37 #[.agg #[.int .u64 ah, .int .u64 al], .agg #[.int .u64 bh, .int .u64 bl]] w fun e w' => e = .returned (.int .i64 (cmpV (num ah al) (num bh bl))) ∧ Below w.heap.size w w' := by
  obtain ⟨a1, a2⟩ := h1; obtain ⟨b1, b2⟩ := h2; obtain ⟨c1, c2⟩ := h3; obtain ⟨d1, d2⟩ := h4
  go_enter Try.func37, Try.ntmps37
  go_wp2
  all_goals (go_ret; exact ⟨ret_int (by (try simp [eq2] at *); unfold cmpV num; omega), by (repeat' (first | (with_reducible exact Below.refl _ _) | (with_reducible assumption) | (with_reducible refine Below.alloc ?_ ?_ _) | (with_reducible refine Below.drew ?_) | (with_reducible refine drewN_below ?_ _) | (with_reducible refine Below.setCell ?_ ?_ _) | (with_reducible refine below_call (by with_reducible assumption) ?_ ?_) | (first | (with_reducible exact Nat.le_refl _) | (with_reducible assumption) | omega | (simp; done) | (simp; omega))))⟩)

theorem wrap_u64 (n : Int) : IntKind.u64.wrap n = n % 18446744073709551616 := by rw [IntKind.wrap_u64]
/-- Two numbers of two words, added: the low word, the high word with its carry. -/
theorem add_words (ah al bh bl : Int) (h2 : Word al) (h3 : Word bh) (h4 : Word bl) :
    (¬ IntKind.u64.wrap (al + bl) < al → loOf (num ah al + num bh bl) = IntKind.u64.wrap (al + bl) ∧ hiOf (num ah al + num bh bl) = IntKind.u64.wrap (ah + bh)) ∧
    (IntKind.u64.wrap (al + bl) < al → loOf (num ah al + num bh bl) = IntKind.u64.wrap (al + bl) ∧ hiOf (num ah al + num bh bl) = IntKind.u64.wrap (IntKind.u64.wrap (ah + bh) + 1)) ∧
    (overB (num ah al + num bh bl) = decide (cmpV (num (hiOf (num ah al + num bh bl)) (loOf (num ah al + num bh bl))) (num ah al) < 0)) := by
  simp only [wrap_u64]
  unfold Word at *
  refine ⟨fun h => ?_, fun h => ?_, ?_⟩
  · unfold loOf hiOf num; omega
  · unfold loOf hiOf num; omega
  · unfold overB; rw [decide_eq_decide]; unfold cmpV loOf hiOf num; omega

end Go.Proofs.Ytamhngjhgdmgbaa
