/- Distances, and what is near, as arguments. -/
import Derived.Test.YtamhngjhgdmgbaaRow
namespace Go.Proofs.Ytamhngjhgdmgbaa
open Go.ChangeShapes Go.WideShapes Go.ChangeAt Go.RowKit
section
variable {H : Type} {enc : TypeId × Value → H} {w : World}

set_option maxRecDepth 100000 in
theorem rd_dist {cs : List Value} (h : Rd enc Try.prog w 32 cs) : ∃ x y z, cs = [.int .u64 x, .int .u64 y, .int .u64 z] ∧ Word x ∧ Word y ∧ Word z := by
  obtain ⟨hl, hf⟩ := rd_struct Try.underlying32 h
  have h2 : Try.prog.cellsOf 32 = 3 := by kernel_rfl
  have hi : Try.prog.cellsOf 30 = 1 := by kernel_rfl
  rw [h2] at hl
  match cs, hl with
  | [c0, c1, c2], _ =>
    have f0 := hf 0 _ rfl
    have f1 := hf 1 _ rfl
    have f2 := hf 2 _ rfl
    simp [hi] at f0 f1 f2
    obtain ⟨x, hx, wx⟩ := rd_int Try.underlying30 f0
    obtain ⟨y, hy, wy⟩ := rd_int Try.underlying30 f1
    obtain ⟨z, hz, wz⟩ := rd_int Try.underlying30 f2
    simp at hx hy hz
    exact ⟨x, y, z, by rw [hx, hy, hz], word_of_wf wx, word_of_wf wy, word_of_wf wz⟩

set_option maxRecDepth 100000 in
theorem rd_near {cs : List Value} (h : Rd enc Try.prog w 34 cs) : ∃ i x y z, cs = [.int .i64 i, .int .u64 x, .int .u64 y, .int .u64 z] ∧ Int64 i ∧ Word x ∧ Word y ∧ Word z := by
  obtain ⟨hl, hf⟩ := rd_struct Try.underlying34 h
  have h2 : Try.prog.cellsOf 34 = 4 := by kernel_rfl
  have hi : Try.prog.cellsOf 32 = 3 := by kernel_rfl
  have hj : Try.prog.cellsOf 3 = 1 := by kernel_rfl
  rw [h2] at hl
  match cs, hl with
  | [c0, c1, c2, c3], _ =>
    have f0 := hf 0 _ rfl
    have f1 := hf 1 _ rfl
    simp [hi, hj] at f0 f1
    obtain ⟨i, hi', wi⟩ := rd_int Try.underlying3 f0
    obtain ⟨x, y, z, h123, wx, wy, wz⟩ := rd_dist f1
    simp at hi' h123
    exact ⟨i, x, y, z, by rw [hi', h123.1, h123.2.1, h123.2.2], int64_of_wf wi, wx, wy, wz⟩

set_option maxRecDepth 100000 in
theorem open_dist {v : Value} {d : DataW H} {p : List MemPlace} {r : Reach} {b0 : Nat} (hv : Value.okWide Try.prog w r b0 32 v) (h : DataW.Trod enc Try.prog w 0 (fun _ => true) true 32 v d p) :
    ∃ x y z, v = .agg #[.int .u64 x, .int .u64 y, .int .u64 z] ∧ Word x ∧ Word y ∧ Word z := by
  obtain ⟨cs, rfl, _⟩ := okWide_struct Try.underlying32 hv
  obtain ⟨x, y, z, hc, hx⟩ := rd_dist (rd_of_trod h rfl)
  exact ⟨x, y, z, by rw [← Array.toArray_toList (xs := cs), hc], hx⟩

set_option maxRecDepth 100000 in
theorem open_near {v : Value} {d : DataW H} {p : List MemPlace} {r : Reach} {b0 : Nat} (hv : Value.okWide Try.prog w r b0 34 v) (h : DataW.Trod enc Try.prog w 0 (fun _ => true) true 34 v d p) :
    ∃ i x y z, v = .agg #[.int .i64 i, .int .u64 x, .int .u64 y, .int .u64 z] ∧ Int64 i ∧ Word x ∧ Word y ∧ Word z := by
  obtain ⟨cs, rfl, _⟩ := okWide_struct Try.underlying34 hv
  obtain ⟨i, x, y, z, hc, hx⟩ := rd_near (rd_of_trod h rfl)
  exact ⟨i, x, y, z, by rw [← Array.toArray_toList (xs := cs), hc], hx⟩
end
end Go.Proofs.Ytamhngjhgdmgbaa
