/- errors.Is between two numbers of errors; pergolaalike.Code. -/
import Derived.Test.YthamagnlpndnoaaDoorBase
import Derived.LaidEql
import Derived.BigGuardPart
import Derived.Stop.Asserts
namespace Go
section
variable {P : Program} (w : World)
theorem run_equalIn_iface_int (d : Nat) {ti tn : TypeId} {ms : Array (String × TypeId)} {i : TypeInfo} {k : IntKind} (a b : Int)
    (hi : P.underlying ti = some (.interface ms)) (hn : P.underlying tn = some (.int k)) (hinfo : P.info? tn = some i) (hcomp : i.comparable = true) :
    (Op.equalIn (d + 2) ti (.iface tn (.int k a)) (.iface tn (.int k b))).run P w = .ok (a == b) w := by
  simp [Op.equalIn, run_underlying hi, run_underlying hn, typeInfo, hinfo, hcomp]
theorem run_eql_iface_int {ti tn : TypeId} {ms : Array (String × TypeId)} {i : TypeInfo} {k : IntKind} (a b : Int)
    (hi : P.underlying ti = some (.interface ms)) (hn : P.underlying tn = some (.int k)) (hinfo : P.info? tn = some i) (hcomp : i.comparable = true) :
    (binOp .eql ti (.iface tn (.int k a)) (.iface tn (.int k b))).run P w = .ok (.bool (a == b)) w := by
  simp only [binOp]
  simp [Op.equal, Op.maxDepth, run_equalIn_iface_int w 9998 a b hi hn hinfo hcomp]
end
end Go
namespace Go.Proofs.YthamagnlpndnoaaDoor
open Go.RowKit Go.Extern.Stop Go.Stop Go.Extern

theorem isTypeOf (v : Value) (w : World) : (Extern.ReflectliteType.typeOf #[.iface 53 v]).run Tryd.prog w = .ok (.iface 93 (.agg #[.pointer (some ⟨6, 53, none⟩)])) w := by kernel_rfl
def cmpEntry : Array Value → Sem Value := Extern.ReflectliteType.method fun t => do Extern.Rtype.noPackHeld "Comparable" t; pure (.bool (← typeInfo t).comparable)
theorem isComparable (w : World) : (cmpEntry #[.agg #[.pointer (some ⟨6, 53, none⟩)]]).run Tryd.prog w = .ok (.bool true) w := by kernel_rfl
theorem isMethodComparable (v : Value) (w : World) : (Go.method 272 93 v "Comparable").run Tryd.prog w = .ok (105, v) w := by kernel_rfl
theorem isComp : (Tryd.prog.info? 53).map (·.comparable) = some true := by kernel_rfl
theorem noIsE (v : Value) (xT : TypeId) (w : World) : (Instr.typeAssert (.iface 53 v) xT 95 true).run Tryd.prog w = .ok (.tuple #[.nilIface, .bool false]) w := run_typeAssert_lacksB Tryd.underlying95 (by kernel_rfl) (by kernel_rfl) v xT w
theorem noUnwrapE (v : Value) (xT : TypeId) (w : World) : (Instr.typeAssert (.iface 53 v) xT 98 true).run Tryd.prog w = .ok (.tuple #[.nilIface, .bool false]) w := run_typeAssert_lacksB Tryd.underlying98 (by kernel_rfl) (by kernel_rfl) v xT w
theorem noUnwrapsE (v : Value) (xT : TypeId) (w : World) : (Instr.typeAssert (.iface 53 v) xT 100 true).run Tryd.prog w = .ok (.tuple #[.nilIface, .bool false]) w := run_typeAssert_lacksB Tryd.underlying100 (by kernel_rfl) (by kernel_rfl) v xT w

set_option maxRecDepth 100000 in
set_option maxHeartbeats 400000 in
theorem is_any (a k : Int) (w : World) :
    Calls Tryd.prog 27 #[.iface 53 (.int .i64 a), .iface 53 (.int .i64 k)] w fun e w' => e = .returned (.bool (a == k)) ∧ w = w' := by
  obtain ⟨i, hi, hcmp⟩ := Option.map_eq_some_iff.1 isComp
  have h8 := @run_callFunc_extern Tryd.prog 44 _ Extern.ReflectliteType.typeOf Tryd.func44 (by kernel_rfl) (by kernel_rfl) (by kernel_rfl) (by kernel_rfl)
  have h32 := @run_callFunc_extern Tryd.prog 105 _ cmpEntry Tryd.func105 (by kernel_rfl) (by kernel_rfl) (by kernel_rfl) (by kernel_rfl)
  have tT := isTypeOf
  have cT := isComparable
  have mR := isMethodComparable
  have heq := fun w => run_eql_iface_int (P := Tryd.prog) w a k Tryd.underlying26 Tryd.underlying53 hi hcmp
  have n1 := noIsE
  have n2 := noUnwrapE
  have n3 := noUnwrapsE
  cases hak : (a == k)
  · go_enter Tryd.func27, Tryd.ntmps27
    go_wp2
    refine wp_loop_rounds 1 ?_
    rw [rounds_succ]
    go_wp2
    go_ret
    exact ⟨rfl, rfl⟩
  · go_enter Tryd.func27, Tryd.ntmps27
    go_wp2
    refine wp_loop_rounds 1 ?_
    rw [rounds_succ]
    go_wp2
    go_ret
    exact ⟨rfl, rfl⟩
end Go.Proofs.YthamagnlpndnoaaDoor
