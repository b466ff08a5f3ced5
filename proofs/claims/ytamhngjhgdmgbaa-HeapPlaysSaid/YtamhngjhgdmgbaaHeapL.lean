/- Package heap: Less told of two entries; what was pushed, in order. -/
import Derived.Test.YtamhngjhgdmgbaaHeapAwake
import Derived.Test.YtamhngjhgdmgbaaHeapR
import Derived.Test.YtamhngjhgdmgbaaOpenFlat
import Derived.Test.YtamhngjhgdmgbaaRegion
namespace Go.Proofs.Ytamhngjhgdmgbaa
open Go.RowKit

structure LessIs (x y : Ent) (b : Bool) : Prop where
  eq : decide (cmpEn x y < 0) = b
  wx : WordE x
  wy : WordE y
theorem lessIs_any (x y : Ent) (b : Bool) (h : LessIs x y b) (w : World) :
    Calls Try.prog 19 #[.agg #[.int .i64 x.id, .int .u64 x.hi, .int .u64 x.lo, .int .u64 x.den, .bool x.item, .int .i64 x.node], .agg #[.int .i64 y.id, .int .u64 y.hi, .int .u64 y.lo, .int .u64 y.den, .bool y.item, .int .i64 y.node]] w fun e w' => e = .returned (.bool b) ∧ Below w.heap.size w w' := by
  rw [← h.eq]
  exact hless_any _ _ _ _ _ _ _ _ _ _ _ _ h.wx.1 h.wx.2.1 h.wx.2.2 h.wy.1 h.wy.2.1 h.wy.2.2 w

/-- The first i of es, as they are pushed. -/
def pshL (es : List Ent) : Nat → List Psh
  | 0 => []
  | i + 1 => pshL es i ++ [⟨es.getD i e0, (i : Int) + 1⟩]
theorem pshL_length (es : List Ent) (i : Nat) : (pshL es i).length = i := by
  induction i with
  | zero => rfl
  | succ i ih => simp [pshL, ih]
theorem ents_word {w : World} {v : Value} {es : List Ent} (h : IsEnts w v es) {i : Nat} (hi : i < es.length) : WordE (es.getD i e0) :=
  h.all _ (by rw [List.getD_eq_getElem?_getD, List.getElem?_eq_getElem hi]; exact List.getElem_mem _)
theorem leP_cmp {p q : Psh} (h : leP p q) : cmpEn p.e q.e ≤ 0 := by
  unfold leP ordP at h
  rw [or2] at h
  split at h <;> omega
theorem HeapOf.word {w : World} {B h : Nat} {v : Value} {l : List Psh} {c : Int} (H : HeapOf w B h v l c) : ∀ p ∈ l, WordE p.e := by
  obtain ⟨xs, a, _, e⟩ := H
  exact fun p hp => a.word p (e.mem_iff.2 hp)
theorem HeapOf.side {w : World} {B h : Nat} {v : Value} {l : List Psh} {c : Int} (H : HeapOf w B h v l c) {g : Nat} (h1 : g ≠ h) (h2 : v.ownBlock ≠ some g) (i : Nat) (u : Value) : HeapOf (w.setCell ⟨g, i, none⟩ u) B h v l c := by
  obtain ⟨xs, a, b, e⟩ := H
  exact ⟨xs, a.side h1 h2 i u, b, e⟩
theorem lessIs_not {x y : Ent} (hx : WordE x) (hy : WordE y) (h : cmpEn y x ≤ 0) : LessIs x y false := by
  refine ⟨decide_eq_false ?_, hx, hy⟩
  rw [cmpEn_neg y x]; omega
end Go.Proofs.Ytamhngjhgdmgbaa
