/- Package heap: what a heap is in memory; New, Len. -/
import Derived.Test.YtamhngjhgdmgbaaHeapM
import Derived.Test.YtamhngjhgdmgbaaHeapB
import Derived.Test.YtamhngjhgdmgbaaAppend
namespace Go.Proofs.Ytamhngjhgdmgbaa
open Go.RowKit

def pshCells (p : Psh) : List Value := [.int .i64 p.e.id, .int .u64 p.e.hi, .int .u64 p.e.lo, .int .u64 p.e.den, .bool p.e.item, .int .i64 p.e.node, .int .i64 p.c]
def rowCells (l : List Psh) : List Value := l.flatMap pshCells
theorem rowCells_length (l : List Psh) : (rowCells l).length = l.length * 7 := by
  induction l with
  | nil => rfl
  | cons d r ih => simp only [rowCells, List.flatMap_cons, List.length_append, pshCells, List.length_cons, List.length_nil] at *; omega
theorem rowCells_append (l r : List Psh) : rowCells (l ++ r) = rowCells l ++ rowCells r := by simp [rowCells]

/-- Block h is a heap of xs, c were pushed; its row is v's own block, at B or behind. -/
structure IsHeap (w : World) (B h : Nat) (v : Value) (xs : List Psh) (c : Int) : Prop where
  blk : Blk w h 51 #[v, .int .i64 c]
  own : w.ownsRow B 60 7 v xs.length (rowCells xs)
  apart : ∀ g, v.ownBlock = some g → g ≠ h
  base : B ≤ h
  word : ∀ p ∈ xs, WordE p.e

set_option maxHeartbeats 1000000 in
theorem new_any (w : World) :
    Calls Try.prog 9 #[] w fun e w' => ∃ h, e = .returned (.pointer (some ⟨h, 0, none⟩)) ∧ IsHeap w' w.heap.size h (.slice none 0 0) [] 0 ∧ Below w.heap.size w w' ∧ w.heap.size ≤ h := by
  go_enter Try.func9, Try.ntmps9
  go_wp2
  go_ret
  exact ⟨_, rfl, ⟨Blk.new' _ _ (by first | rfl | simp), World.ownsRow_nil _ _ _ _, by intro g hg; simp [Value.ownBlock] at hg, Nat.le_refl _, by intro p hp; cases hp⟩, by (repeat' (first | (with_reducible exact Below.refl _ _) | (with_reducible assumption) | (with_reducible refine Below.alloc ?_ ?_ _) | (with_reducible refine Below.drew ?_) | (with_reducible refine drewN_below ?_ _) | (with_reducible refine Below.setCell ?_ ?_ _) | (with_reducible refine below_call (by with_reducible assumption) ?_ ?_) | (first | (with_reducible exact Nat.le_refl _) | (with_reducible assumption) | omega | (simp; done) | (simp; omega)))), Nat.le_refl _⟩

theorem IsHeap.form {w : World} {B h : Nat} {v : Value} {xs : List Psh} {c : Int} (H : IsHeap w B h v xs c) : ∃ a cap, v = .slice a xs.length cap := by
  rcases H.own.2 with ⟨rfl, h0⟩ | ⟨g, cap, cur, rfl, _⟩
  · exact ⟨none, 0, by rw [h0]⟩
  · exact ⟨_, cap, rfl⟩
set_option maxHeartbeats 1000000 in
theorem len_any (B h : Nat) (v : Value) (xs : List Psh) (c : Int) (w : World) (H : IsHeap w B h v xs c) :
    Calls Try.prog 17 #[.pointer (some ⟨h, 0, none⟩)] w fun e w' => e = .returned (.int .i64 xs.length) ∧ w = w' := by
  obtain ⟨a, cap, hv⟩ := H.form
  have k0 := H.blk.cell 0
  rw [hv] at k0
  simp at k0
  clear H hv
  generalize xs.length = n at *
  go_enter Try.func17, Try.ntmps17
  go_wp2
  go_ret
  exact ⟨rfl, rfl⟩
theorem lenNil_any (w : World) :
    Calls Try.prog 17 #[.pointer none] w fun e w' => e = .returned (.int .i64 0) ∧ w = w' := by
  go_enter Try.func17, Try.ntmps17
  go_wp2
  go_ret
  exact ⟨rfl, rfl⟩

theorem rowCells_at (l : List Psh) : ∀ i, i < l.length → ∀ j, j < 7 → (rowCells l)[i * 7 + j]? = (pshCells (l.getD i p0))[j]? := by
  induction l with
  | nil => intro i h; simp at h
  | cons d r ih =>
    intro i hi j hj
    have e : rowCells (d :: r) = pshCells d ++ rowCells r := by simp [rowCells]
    have hl : (pshCells d).length = 7 := rfl
    cases i with
    | zero => rw [e, Nat.zero_mul, Nat.zero_add, List.getElem?_append_left (by omega)]; rfl
    | succ i =>
      rw [e, List.getElem?_append_right (by omega), hl, show (i + 1) * 7 + j - 7 = i * 7 + j from by omega, ih i (by simpa using hi) j hj]
      simp [List.getD_eq_getElem?_getD]
/-- The cells of the i-th one. -/
theorem IsHeap.at_ {w : World} {B h : Nat} {v : Value} {xs : List Psh} {c : Int} (H : IsHeap w B h v xs c) (hp : 0 < xs.length) :
    ∃ g cap, v = .slice (some ⟨g, 0, none⟩) xs.length cap ∧ B ≤ g ∧ g < w.heap.size ∧ g ≠ h ∧ ∀ i, i < xs.length → ∀ j u, (pshCells (xs.getD i p0))[j]? = some u → w.cell? ⟨g, i * 7 + j, none⟩ = some u := by
  obtain ⟨g, cap, hv, hb, hl⟩ := H.own.form hp
  refine ⟨g, cap, hv, hb, hl, H.apart g (by rw [hv]; rfl), fun i hi j u hu => ?_⟩
  have hj : j < 7 := (List.getElem?_eq_some_iff.1 hu).1
  rw [← rowCells_at xs i hi j hj] at hu
  have hc := H.own.cells (g := g) (by rw [hv]; rfl) _ _ hu
  have ea : (⟨g, 0, none⟩ : Addr).add (i * 7 + j) = ⟨g, i * 7 + j, none⟩ := by unfold Addr.add; split <;> simp_all
  rw [ea] at hc
  exact hc
end Go.Proofs.Ytamhngjhgdmgbaa
