/- pergolaref1: Div. -/
import Derived.Test.YtamhngjhgdmgbaaDiv
import Derived.Test.YtamhngjhgdmgbaaTimes
import Derived.Test.YtamhngjhgdmgbaaDivMath
namespace Go.Proofs.Ytamhngjhgdmgbaa
open Go.RowKit

theorem shr_word {x : Int} (h : Word x) (k : Nat) : Word (x / 2 ^ k) := by
  have hp := pow_pos2 k
  refine ⟨Int.ediv_nonneg h.1 (Int.le_of_lt hp), ?_⟩
  have := Int.ediv_le_self (b := 2 ^ k) h.1
  have := h.2
  omega

theorem Blk.new' {w : World} {n : Nat} (t : TypeId) (cs : Array Value) (h : n = w.heap.size) : Blk (w.alloc (.cells cs t)) n t cs := h ▸ Blk.new w t cs
theorem Blk.alloc {w : World} {g : Nat} {t : TypeId} {cs : Array Value} (h : Blk w g t cs) (x : Obj) : Blk (w.alloc x) g t cs := by
  have hl := h.lt
  unfold Blk at h ⊢
  rw [Below.heap_alloc _ _ _ hl]; exact h

theorem Blk.setO {w : World} {g : Nat} {t : TypeId} {cs : Array Value} (h : Blk w g t cs) {b : Nat} (hb : b ≠ g) (o : Nat) (u : Value) : Blk (w.setCell ⟨b, o, none⟩ u) g t cs := by
  unfold Blk at h ⊢
  simp [World.setCell, Array.getElem?_modify, h, hb]

end Go.Proofs.Ytamhngjhgdmgbaa
