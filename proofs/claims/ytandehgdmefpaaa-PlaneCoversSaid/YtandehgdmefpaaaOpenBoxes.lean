/- A slice of boxes as an argument. -/
import Derived.Test.YtandehgdmefpaaaOpenPt
import Derived.Test.YtandehgdmefpaaaUnion
namespace Go.Proofs.Ytandehgdmefpaaa
open Go.ChangeShapes Go.WideShapes Go.ChangeAt Go.RowKit

/-- The value is a slice of these boxes. -/
def IsBoxes (w : World) (v : Value) (bs : List B4) : Prop :=
  (bs = [] ∧ ∃ a cap, v = .slice a 0 cap) ∨ (0 < bs.length ∧ ∃ b off cap, v = .slice (some ⟨b, off, none⟩) bs.length cap ∧ b < w.heap.size ∧ BoxesFrom w b off bs)

theorem add_at {b off i j : Nat} : ((⟨b, off, none⟩ : Addr).add i).add j = ⟨b, off + i + j, none⟩ := by
  unfold Addr.add; by_cases hi : i = 0 <;> by_cases hj : j = 0 <;> simp [hi, hj]

section
variable {H : Type} {enc : TypeId × Value → H} {w : World}
set_option maxRecDepth 100000 in
theorem open_boxes {v : Value} {d : DataW H} {p : List MemPlace} {r : Reach} {b0 : Nat} (hv : Value.okWide Try.prog w r b0 45 v) (h : DataW.Trod enc Try.prog w 0 (fun _ => true) true 45 v d p) :
    ∃ bs, IsBoxes w v bs := by
  obtain ⟨a, len, cap, rfl⟩ := okWide_slice Try.underlying45 hv
  obtain ⟨fuel, h⟩ := h
  have h' : DataW.trod enc Try.prog w 0 (fun _ => true) true fuel 45 [.slice a len cap] = some (d, p) := h
  have h4 : Try.prog.cellsOf 29 = 4 := by kernel_rfl
  rcases Go.Deep.open_slice Try.underlying45 h' with ⟨h0, _⟩ | ⟨a, len, cap, m, n, D, Pl, h0, _, hl, _, hm, _, hx⟩
  · simp at h0
    obtain ⟨rfl, rfl, rfl⟩ := h0
    exact ⟨[], .inl ⟨rfl, none, 0, rfl⟩⟩
  · simp at h0 hm
    obtain ⟨rfl, rfl, rfl⟩ := h0
    rcases Nat.eq_zero_or_pos len with rfl | hpos
    · exact ⟨[], .inl ⟨rfl, _, _, rfl⟩⟩
    · have hq : ∀ i, i < len → ∃ q : B4, w.cell? (a.add (i * 4)) = some (.int .i64 q.1) ∧ w.cell? ((a.add (i * 4)).add 1) = some (.int .i64 q.2.1) ∧ w.cell? ((a.add (i * 4)).add 2) = some (.int .i64 q.2.2.1) ∧ w.cell? ((a.add (i * 4)).add 3) = some (.int .i64 q.2.2.2) := by
        intro i hi
        obtain ⟨cs', h1, h2⟩ := hx i (by omega)
        rw [h4] at h1
        obtain ⟨_, _, hcell⟩ := World.cells?_some h1
        obtain ⟨x, y, z, u, rfl, _⟩ := rd_box ⟨n, _, h2⟩
        have e0 := hcell 0 (by omega)
        have e1 := hcell 1 (by omega)
        have e2 := hcell 2 (by omega)
        have e3 := hcell 3 (by omega)
        exact ⟨(x, y, z, u), by simpa [Addr.add] using e0, by simpa using e1, by simpa using e2, by simpa using e3⟩
      obtain ⟨q, hq⟩ := Go.Deep.choose_lt (α := B4) hq
      obtain ⟨b, off, spot⟩ := a
      have hs : spot = none := by
        have h0 := (hq 0 hpos).1
        simp [Addr.add, World.cell?] at h0
        split at h0
        · cases spot with
          | none => rfl
          | some s => simp at h0
        · cases h0
      subst hs
      refine ⟨(List.range len).map q, .inr ⟨by simpa using hpos, b, off, cap, by simp, ?_, ?_⟩⟩
      · have h0 := (hq 0 hpos).1
        exact lt_of_cell (b := b) (o := off) (by simpa [Addr.add] using h0)
      · intro i hi
        simp at hi
        have hg : ((List.range len).map q).getD i b40 = q i := by simp [List.getD_eq_getElem?_getD, hi]
        rw [hg]
        obtain ⟨k0, k1, k2, k3⟩ := hq i hi
        have ea : (⟨b, off, none⟩ : Addr).add (i * 4) = ⟨b, off + i * 4, none⟩ := by unfold Addr.add; split <;> simp_all
        rw [ea] at k0
        rw [add_at] at k1 k2 k3
        exact ⟨k0, k1, k2, k3⟩
end

set_option maxHeartbeats 400000 in
theorem union_none (a : Option Addr) (cap : Nat) (w : World) :
    Calls Try.prog 24 #[.slice a 0 cap] w fun e w' => e = .returned (.tuple #[.agg #[.int .i64 0, .int .i64 0, .int .i64 0, .int .i64 0], .iface 71 (.int .i64 1)]) ∧ Below w.heap.size w w' := by
  go_enter Try.func24, Try.ntmps24
  go_wp2
  refine bodyPost_ret (v := .tuple #[.agg #[.int .i64 0, .int .i64 0, .int .i64 0, .int .i64 0], .iface 71 (.int .i64 1)]) ?_ rfl ⟨rfl, by (repeat' (first | (with_reducible exact Below.refl _ _) | (with_reducible assumption) | (with_reducible refine Below.alloc ?_ ?_ _) | (with_reducible refine Below.drew ?_) | (with_reducible refine Below.setCell ?_ ?_ _) | (with_reducible refine below_call (by with_reducible assumption) ?_ ?_) | (first | (with_reducible exact Nat.le_refl _) | (with_reducible assumption) | omega | (simp; done) | (simp; omega))))⟩
  simp [*, results, Try.results24, go_sem]

theorem union_is {v : Value} {bs : List B4} {w : World} (h : IsBoxes w v bs) (hm : bs.length ≤ 1000000000000) :
    Calls Try.prog 24 #[v] w fun e w' => e = .returned (.tuple #[.agg #[.int .i64 ((unionV bs).1), .int .i64 ((unionV bs).2.1), .int .i64 ((unionV bs).2.2.1), .int .i64 ((unionV bs).2.2.2)], errV (unionE bs)]) ∧ Below w.heap.size w w' := by
  rcases h with ⟨rfl, a, cap, rfl⟩ | ⟨hp, b, off, cap, rfl, hb, hf⟩
  · exact union_none a cap w
  · exact union_any b off _ cap bs w (Nat.le_refl _) (Nat.le_refl _) hm hp hb hf
theorem IsBoxes.keep {w w' : World} {v : Value} {bs : List B4} (h : IsBoxes w v bs) (hb : Below w.heap.size w w') : IsBoxes w' v bs := by
  rcases h with ⟨h1, h2⟩ | ⟨hp, b, off, cap, hv, hl, hf⟩
  · exact .inl ⟨h1, h2⟩
  · refine .inr ⟨hp, b, off, cap, hv, Nat.lt_of_lt_of_le hl hb.size, fun i hi => ?_⟩
    obtain ⟨k0, k1, k2, k3⟩ := hf i hi
    rw [hb.cell (p := ⟨b, off + i * 4, none⟩) hl, hb.cell (p := ⟨b, off + i * 4 + 1, none⟩) hl, hb.cell (p := ⟨b, off + i * 4 + 2, none⟩) hl, hb.cell (p := ⟨b, off + i * 4 + 3, none⟩) hl]
    exact ⟨k0, k1, k2, k3⟩
end Go.Proofs.Ytandehgdmefpaaa
