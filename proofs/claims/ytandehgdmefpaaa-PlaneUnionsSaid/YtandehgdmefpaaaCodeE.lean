/- Code of an error that may be none. -/
import Derived.Test.YtandehgdmefpaaaCode
import Derived.Test.YtandehgdmefpaaaBoxes
namespace Go.Proofs.Ytandehgdmefpaaa
open Go.RowKit

theorem codeE_any (n : Int) (h0 : 0 ≤ n) (h1 : n ≤ 15) (w : World) :
    Calls Try.prog 30 #[errV n] w fun e w' => e = .returned (.int .i64 n) ∧ w = w' := by
  by_cases h : n = 0
  · subst h; exact code_nil w
  · have e : errV n = .iface 71 (.int .i64 n) := by unfold errV; rw [if_neg h]
    rw [e]; exact code_err n (by omega) h1 w
theorem boxCode_bd (a b c d : Int) : 0 ≤ boxCode a b c d ∧ boxCode a b c d ≤ 2 := by
  unfold boxCode; split
  · split <;> omega
  · omega
end Go.Proofs.Ytandehgdmefpaaa
