/- A slice of flat elements as an argument: entries, steps, ints. -/
import Derived.Test.YtamhngjhgdmgbaaOpenEnt
import Derived.Test.YtamhngjhgdmgbaaHeapM
namespace Go.Proofs.Ytamhngjhgdmgbaa
open Go.ChangeShapes Go.WideShapes Go.ChangeAt Go.RowKit

/-- The value is a slice of these elements, s cells each; f: an element's cells. -/
structure IsFlat {α : Type} (f : α → List Value) (s : Nat) (Pq : α → Prop) (d0 : α) (w : World) (v : Value) (l : List α) : Prop where
  val : ∃ a cap, v = .slice a l.length cap ∧ (0 < l.length → ∃ b off, a = some ⟨b, off, none⟩ ∧ b < w.heap.size ∧ ∀ i, i < l.length → ∀ j u, (f (l.getD i d0))[j]? = some u → w.cell? ⟨b, off + i * s + j, none⟩ = some u)
  all : ∀ q ∈ l, Pq q
theorem IsFlat.keep {α : Type} {f : α → List Value} {s : Nat} {Pq : α → Prop} {d0 : α} {w w' : World} {v : Value} {l : List α} (h : IsFlat f s Pq d0 w v l) (hb : Below w.heap.size w w') : IsFlat f s Pq d0 w' v l := by
  obtain ⟨⟨a, cap, hv, hf⟩, ha⟩ := h
  refine ⟨⟨a, cap, hv, fun hp => ?_⟩, ha⟩
  obtain ⟨b, off, rfl, hl, hc⟩ := hf hp
  exact ⟨b, off, rfl, Nat.lt_of_lt_of_le hl hb.size, fun i hi j u hu => by rw [hb.cell (p := ⟨b, off + i * s + j, none⟩) hl]; exact hc i hi j u hu⟩

theorem addf_at {b off i j : Nat} : ((⟨b, off, none⟩ : Addr).add i).add j = ⟨b, off + i + j, none⟩ := by
  unfold Addr.add; by_cases hi : i = 0 <;> by_cases hj : j = 0 <;> simp [hi, hj]

section
variable {H : Type} {enc : TypeId × Value → H} {w : World}
set_option maxRecDepth 100000 in
theorem open_flat {α : Type} (f : α → List Value) (Pq : α → Prop) (d0 : α) (ts te : TypeId) (s : Nat) (hu : Try.prog.underlying ts = some (.slice te)) (hs : Try.prog.cellsOf te = s) (hs0 : 0 < s) (hlen : ∀ q, (f q).length = s)
    (hrd : ∀ cs, Rd enc Try.prog w te cs → ∃ q, cs = f q ∧ Pq q)
    {v : Value} {d : DataW H} {p : List MemPlace} {r : Reach} {b0 : Nat} (hv : Value.okWide Try.prog w r b0 ts v) (h : DataW.Trod enc Try.prog w 0 (fun _ => true) true ts v d p) :
    ∃ l, IsFlat f s Pq d0 w v l := by
  obtain ⟨a, len, cap, rfl⟩ := okWide_slice hu hv
  obtain ⟨fuel, h⟩ := h
  have h' : DataW.trod enc Try.prog w 0 (fun _ => true) true fuel ts [.slice a len cap] = some (d, p) := h
  rcases Go.Deep.open_slice hu h' with ⟨h0, _⟩ | ⟨a, len, cap, m, n, D, Pl, h0, _, hl, _, hm, _, hx⟩
  · simp at h0
    obtain ⟨rfl, rfl, rfl⟩ := h0
    exact ⟨[], ⟨none, 0, rfl, fun h => absurd h (Nat.lt_irrefl 0)⟩, fun _ h => by cases h⟩
  · simp at h0 hm
    obtain ⟨rfl, rfl, rfl⟩ := h0
    rcases Nat.eq_zero_or_pos len with rfl | hpos
    · exact ⟨[], ⟨_, _, rfl, fun h => absurd h (Nat.lt_irrefl 0)⟩, fun _ h => by cases h⟩
    · have hq : ∀ i, i < len → ∃ q : α, (∀ j u, (f q)[j]? = some u → w.cell? ((a.add (i * s)).add j) = some u) ∧ Pq q := by
        intro i hi
        obtain ⟨cs', h1, h2⟩ := hx i (by omega)
        rw [hs] at h1
        obtain ⟨_, hcl, hcell⟩ := World.cells?_some h1
        obtain ⟨q, rfl, hP⟩ := hrd _ ⟨n, _, h2⟩
        refine ⟨q, fun j u hju => ?_, hP⟩
        have hj : j < s := by rw [← hlen q]; exact (List.getElem?_eq_some_iff.1 hju).1
        rw [hcell j hj, hju]
      haveI : Inhabited α := ⟨d0⟩
      obtain ⟨q, hq⟩ := Go.Deep.choose_lt (α := α) hq
      obtain ⟨b, off, spot⟩ := a
      have h00 : ∃ u, w.cell? ((⟨b, off, spot⟩ : Addr)) = some u := by
        have h0 := (hq 0 hpos).1 0
        have hf : 0 < (f (q 0)).length := by rw [hlen]; exact hs0
        refine ⟨(f (q 0))[0], ?_⟩
        have := h0 _ (List.getElem?_eq_getElem hf)
        simpa [Addr.add] using this
      have hsp : spot = none := by
        obtain ⟨u, h0⟩ := h00
        simp [World.cell?] at h0
        split at h0
        · cases spot with
          | none => rfl
          | some s => simp at h0
        · cases h0
      subst hsp
      refine ⟨(List.range len).map q, ⟨some ⟨b, off, none⟩, cap, by simp, fun _ => ⟨b, off, rfl, ?_, ?_⟩⟩, ?_⟩
      · obtain ⟨u, h0⟩ := h00
        exact lt_of_cell (b := b) (o := off) h0
      · intro i hi j u hju
        simp at hi
        have hg : ((List.range len).map q).getD i d0 = q i := by simp [List.getD_eq_getElem?_getD, hi]
        rw [hg] at hju
        have := (hq i hi).1 j u hju
        rw [addf_at] at this
        exact this
      · intro d hd
        simp at hd
        obtain ⟨i, hi, rfl⟩ := hd
        exact (hq i hi).2

def entCells (e : Ent) : List Value := [.int .i64 e.id, .int .u64 e.hi, .int .u64 e.lo, .int .u64 e.den, .bool e.item, .int .i64 e.node]
/-- The value is a slice of these entries. -/
def IsEnts (w : World) (v : Value) (es : List Ent) : Prop := IsFlat entCells 6 WordE e0 w v es
set_option maxRecDepth 100000 in
theorem open_ents {v : Value} {d : DataW H} {p : List MemPlace} {r : Reach} {b0 : Nat} (hv : Value.okWide Try.prog w r b0 27 v) (h : DataW.Trod enc Try.prog w 0 (fun _ => true) true 27 v d p) :
    ∃ es, IsEnts w v es := by
  refine open_flat entCells WordE e0 _ 36 6 Try.underlying27 (by kernel_rfl) (by decide) (fun _ => rfl) (fun cs hcs => ?_) hv h
  obtain ⟨i, x, y, z, m, n, rfl, _, wx, wy, wz, _⟩ := rd_hent hcs
  exact ⟨⟨i, x, y, z, m, n⟩, rfl, wx, wy, wz⟩

/-- A step: its kind, its entry. -/
structure Stp where
  kind : Int
  e : Ent
def s0 : Stp := ⟨0, e0⟩
def stpCells (s : Stp) : List Value := .int .i64 s.kind :: entCells s.e
def IsSteps (w : World) (v : Value) (l : List Stp) : Prop := IsFlat stpCells 7 (fun s => WordE s.e) s0 w v l
set_option maxRecDepth 100000 in
theorem rd_stp {cs : List Value} (h : Rd enc Try.prog w 38 cs) : ∃ s : Stp, cs = stpCells s ∧ WordE s.e := by
  obtain ⟨hl, hf⟩ := rd_struct Try.underlying38 h
  have h2 : Try.prog.cellsOf 38 = 7 := by kernel_rfl
  have hi : Try.prog.cellsOf 36 = 6 := by kernel_rfl
  have hj : Try.prog.cellsOf 3 = 1 := by kernel_rfl
  rw [h2] at hl
  match cs, hl with
  | [c0, c1, c2, c3, c4, c5, c6], _ =>
    have f0 := hf 0 _ rfl
    have f1 := hf 1 _ rfl
    simp [hi, hj] at f0 f1
    obtain ⟨k, hk, _⟩ := rd_int Try.underlying3 f0
    obtain ⟨i, x, y, z, m, n, hx, wi, wx, wy, wz, _⟩ := rd_hent f1
    simp at hk hx
    exact ⟨⟨k, ⟨i, x, y, z, m, n⟩⟩, by rw [hk, hx.1, hx.2.1, hx.2.2.1, hx.2.2.2.1, hx.2.2.2.2.1, hx.2.2.2.2.2]; rfl, wx, wy, wz⟩
set_option maxRecDepth 100000 in
theorem open_steps {v : Value} {d : DataW H} {p : List MemPlace} {r : Reach} {b0 : Nat} (hv : Value.okWide Try.prog w r b0 22 v) (h : DataW.Trod enc Try.prog w 0 (fun _ => true) true 22 v d p) :
    ∃ l, IsSteps w v l := by
  refine open_flat stpCells (fun s => WordE s.e) s0 _ 38 7 Try.underlying22 (by kernel_rfl) (by decide) (fun _ => rfl) (fun cs hcs => rd_stp hcs) hv h
def IsInts (w : World) (v : Value) (l : List Int) : Prop := IsFlat (fun i => [.int .i64 i]) 1 Int64 0 w v l
set_option maxRecDepth 100000 in
theorem open_ints' {v : Value} {d : DataW H} {p : List MemPlace} {r : Reach} {b0 : Nat} (hv : Value.okWide Try.prog w r b0 53 v) (h : DataW.Trod enc Try.prog w 0 (fun _ => true) true 53 v d p) :
    ∃ l, IsInts w v l := by
  refine open_flat _ Int64 0 _ 3 1 Try.underlying53 (by kernel_rfl) (by decide) (fun _ => rfl) (fun cs hcs => ?_) hv h
  obtain ⟨n, hn, wn⟩ := rd_int Try.underlying3 hcs
  exact ⟨n, hn, int64_of_wf wn⟩
end
end Go.Proofs.Ytamhngjhgdmgbaa
