/- Entries of pergolaref14 as arguments. -/
import Derived.Test.YtamhngjhgdmgbaaOpenNear
namespace Go.Proofs.Ytamhngjhgdmgbaa
open Go.ChangeShapes Go.WideShapes Go.ChangeAt Go.RowKit
section
variable {H : Type} {enc : TypeId × Value → H} {w : World}

set_option maxRecDepth 100000 in
theorem rd_hent {cs : List Value} (h : Rd enc Try.prog w 36 cs) : ∃ i x y z m n, cs = [.int .i64 i, .int .u64 x, .int .u64 y, .int .u64 z, .bool m, .int .i64 n] ∧ Int64 i ∧ Word x ∧ Word y ∧ Word z ∧ Int64 n := by
  obtain ⟨hl, hf⟩ := rd_struct Try.underlying36 h
  have h2 : Try.prog.cellsOf 36 = 6 := by kernel_rfl
  have hi : Try.prog.cellsOf 34 = 4 := by kernel_rfl
  have hb : Try.prog.cellsOf 4 = 1 := by kernel_rfl
  have hj : Try.prog.cellsOf 3 = 1 := by kernel_rfl
  rw [h2] at hl
  match cs, hl with
  | [c0, c1, c2, c3, c4, c5], _ =>
    have f0 := hf 0 _ rfl
    have f1 := hf 1 _ rfl
    have f2 := hf 2 _ rfl
    simp [hi, hj, hb] at f0 f1 f2
    obtain ⟨i, x, y, z, hx, wi, wx, wy, wz⟩ := rd_near f0
    obtain ⟨m, hm⟩ := rd_bool Try.underlying4 f1
    obtain ⟨n, hn, wn⟩ := rd_int Try.underlying3 f2
    simp at hx hm hn
    exact ⟨i, x, y, z, m, n, by rw [hx.1, hx.2.1, hx.2.2.1, hx.2.2.2, hm, hn], wi, wx, wy, wz, int64_of_wf wn⟩

set_option maxRecDepth 100000 in
theorem open_hent {v : Value} {d : DataW H} {p : List MemPlace} {r : Reach} {b0 : Nat} (hv : Value.okWide Try.prog w r b0 36 v) (h : DataW.Trod enc Try.prog w 0 (fun _ => true) true 36 v d p) :
    ∃ i x y z m n, v = .agg #[.int .i64 i, .int .u64 x, .int .u64 y, .int .u64 z, .bool m, .int .i64 n] ∧ Int64 i ∧ Word x ∧ Word y ∧ Word z ∧ Int64 n := by
  obtain ⟨cs, rfl, _⟩ := okWide_struct Try.underlying36 hv
  obtain ⟨i, x, y, z, m, n, hc, hx⟩ := rd_hent (rd_of_trod h rfl)
  exact ⟨i, x, y, z, m, n, by rw [← Array.toArray_toList (xs := cs), hc], hx⟩
end
end Go.Proofs.Ytamhngjhgdmgbaa
