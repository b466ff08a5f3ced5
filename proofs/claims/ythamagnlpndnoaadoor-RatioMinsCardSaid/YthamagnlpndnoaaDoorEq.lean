/- '==' on structs of numbers, each as one Bool. -/
import Derived.Test.YthamagnlpndnoaaDoorBase
namespace Go.Proofs.YthamagnlpndnoaaDoor
open Go.RowKit


set_option maxRecDepth 100000 in
@[go_sem ↓] theorem eql_dist (a b c d e f : Int) (w : World) : (binOp .eql 24 (.agg #[.int .u64 a, .int .u64 b, .int .u64 c]) (.agg #[.int .u64 d, .int .u64 e, .int .u64 f])).run Tryd.prog w = .ok (.bool (eq3 a b c d e f)) w := by
  unfold eq3
  by_cases h1 : a = d <;> by_cases h2 : b = e <;> by_cases h3 : c = f <;> simp [go_sem, h1, h2, h3]

end Go.Proofs.YthamagnlpndnoaaDoor
