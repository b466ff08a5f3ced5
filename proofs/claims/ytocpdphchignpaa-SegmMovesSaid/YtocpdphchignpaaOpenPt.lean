/- Points and boxes as arguments. -/
import Derived.Test.YtocpdphchignpaaRow
namespace Go.Proofs.Ytocpdphchignpaa
open Go.ChangeShapes Go.WideShapes Go.ChangeAt Go.RowKit
section
variable {H : Type} {enc : TypeId × Value → H} {w : World}

set_option maxRecDepth 100000 in
theorem rd_pt {cs : List Value} (h : Rd enc Try.prog w 23 cs) : ∃ x y, cs = [.int .i64 x, .int .i64 y] ∧ Int64 x ∧ Int64 y := by
  obtain ⟨hl, hf⟩ := rd_struct Try.underlying23 h
  have h2 : Try.prog.cellsOf 23 = 2 := by kernel_rfl
  have hi : Try.prog.cellsOf 3 = 1 := by kernel_rfl
  rw [h2] at hl
  match cs, hl with
  | [c0, c1], _ =>
    have f0 := hf 0 _ rfl
    have f1 := hf 1 _ rfl
    simp [hi] at f0 f1
    obtain ⟨x, hx, wx⟩ := rd_int Try.underlying3 f0
    obtain ⟨y, hy, wy⟩ := rd_int Try.underlying3 f1
    simp at hx hy
    exact ⟨x, y, by rw [hx, hy], int64_of_wf wx, int64_of_wf wy⟩

set_option maxRecDepth 100000 in
theorem rd_box {cs : List Value} (h : Rd enc Try.prog w 39 cs) : ∃ a b c d, cs = [.int .i64 a, .int .i64 b, .int .i64 c, .int .i64 d] ∧ Int64 a ∧ Int64 b ∧ Int64 c ∧ Int64 d := by
  obtain ⟨hl, hf⟩ := rd_struct Try.underlying39 h
  have h2 : Try.prog.cellsOf 39 = 4 := by kernel_rfl
  have hi : Try.prog.cellsOf 23 = 2 := by kernel_rfl
  rw [h2] at hl
  match cs, hl with
  | [c0, c1, c2, c3], _ =>
    have f0 := hf 0 _ rfl
    have f1 := hf 1 _ rfl
    simp [hi] at f0 f1
    obtain ⟨a, b, h01, wa, wb⟩ := rd_pt f0
    obtain ⟨c, d, h23, wc, wd⟩ := rd_pt f1
    simp at h01 h23
    exact ⟨a, b, c, d, by rw [h01.1, h01.2, h23.1, h23.2], wa, wb, wc, wd⟩

set_option maxRecDepth 100000 in
theorem open_pt {v : Value} {d : DataW H} {p : List MemPlace} {r : Reach} {b0 : Nat} (hv : Value.okWide Try.prog w r b0 23 v) (h : DataW.Trod enc Try.prog w 0 (fun _ => true) true 23 v d p) :
    ∃ x y, v = .agg #[.int .i64 x, .int .i64 y] ∧ Int64 x ∧ Int64 y := by
  obtain ⟨cs, rfl, _⟩ := okWide_struct Try.underlying23 hv
  obtain ⟨x, y, hc, hx, hy⟩ := rd_pt (rd_of_trod h rfl)
  exact ⟨x, y, by rw [← Array.toArray_toList (xs := cs), hc], hx, hy⟩

set_option maxRecDepth 100000 in
theorem open_box {v : Value} {d : DataW H} {p : List MemPlace} {r : Reach} {b0 : Nat} (hv : Value.okWide Try.prog w r b0 39 v) (h : DataW.Trod enc Try.prog w 0 (fun _ => true) true 39 v d p) :
    ∃ a b c d, v = .agg #[.int .i64 a, .int .i64 b, .int .i64 c, .int .i64 d] ∧ Int64 a ∧ Int64 b ∧ Int64 c ∧ Int64 d := by
  obtain ⟨cs, rfl, _⟩ := okWide_struct Try.underlying39 hv
  obtain ⟨a, b, c, d, hc, hx⟩ := rd_box (rd_of_trod h rfl)
  exact ⟨a, b, c, d, by rw [← Array.toArray_toList (xs := cs), hc], hx⟩
end
end Go.Proofs.Ytocpdphchignpaa
