/- '==' on structs of numbers, each as one Bool. -/
import Derived.Test.YtocpdphchignpaaBase
namespace Go.Proofs.Ytocpdphchignpaa
open Go.RowKit


set_option maxRecDepth 100000 in
@[go_sem ↓] theorem eql_pt (a b c d : Int) (w : World) : (binOp .eql 23 (.agg #[.int .i64 a, .int .i64 b]) (.agg #[.int .i64 c, .int .i64 d])).run Try.prog w = .ok (.bool (eq2 a b c d)) w := by
  unfold eq2
  by_cases h1 : a = c <;> by_cases h2 : b = d <;> simp [go_sem, h1, h2]

set_option maxRecDepth 100000 in
@[go_sem ↓] theorem eql_dist (a b c d e f : Int) (w : World) : (binOp .eql 28 (.agg #[.int .u64 a, .int .u64 b, .int .u64 c]) (.agg #[.int .u64 d, .int .u64 e, .int .u64 f])).run Try.prog w = .ok (.bool (eq3 a b c d e f)) w := by
  unfold eq3
  by_cases h1 : a = d <;> by_cases h2 : b = e <;> by_cases h3 : c = f <;> simp [go_sem, h1, h2, h3]

set_option maxRecDepth 100000 in
@[go_sem ↓] theorem eql_box (a b c d e f g h : Int) (w : World) : (binOp .eql 39 (.agg #[.int .i64 a, .int .i64 b, .int .i64 c, .int .i64 d]) (.agg #[.int .i64 e, .int .i64 f, .int .i64 g, .int .i64 h])).run Try.prog w = .ok (.bool (eq4 a b c d e f g h)) w := by
  unfold eq4
  by_cases h1 : a = e <;> by_cases h2 : b = f <;> by_cases h3 : c = g <;> by_cases h4 : d = h <;> simp [go_sem, h1, h2, h3, h4]
end Go.Proofs.Ytocpdphchignpaa
