/- Laws for append on rows that a call has made. No function of the program is named here. -/
import Derived.Test.YtamhngjhgdmgbaaTimes
import Derived.ArgAppend
import Derived.Laws.OwnMore
import Derived.Deep.AppendLies
import Derived.Deep.AppendSrc
namespace Go.Proofs.Ytamhngjhgdmgbaa
open Go.RowKit

/-- An append whose run is known. -/
theorem wpList_append_run {P : Program} (w : World) {ops : Array Oper} {rest : List Oper} {o : Oper} {a : Act} {Q : Exit → Act → World → Prop} (R : Value → World → Prop)
    (hg : o.guard = none) (s x : Operand) (t : TypeId) (hop : o.op = Op.call { callee := Callee.builtin Builtin.append, args := #[s, x], argTypes := #[t, t] })
    (sv xv : Value) (hs : a.eval s = sv) (hx : a.eval x = xv) (hrun : ∃ v' w', (Builtin.append_ #[t, t] o.type #[sv, xv]).run P w = .ok v' w' ∧ R v' w')
    (hK : ∀ v' w', R v' w' → wpList P ops Q rest (a.put o.dst v') w') : wpList P ops Q (o :: rest) a w := by
  refine wpList_plain hg fun K hK' => ?_
  obtain ⟨v', w', hr, h⟩ := hrun
  unfold Oper.wp
  simp [execOp, hop, resolve, invoke, builtin, hs, hx, hr, Result.andThen]
  exact hK' _ _ (hK v' w' h)

theorem blk_grow {z z' : World} {b : Nat} {t : TypeId} {cs : Array Value} (h : Blk z b t cs) (hb : Below z.heap.size z z') : Blk z' b t cs := by
  have hl := h.lt
  unfold Blk at *
  rw [hb.block b hl]; exact h
theorem ownsRow_below {w w' : World} {base : Nat} {e : TypeId} {size : Nat} {v : Value} {n : Nat} {xs : List Value} (h : w.ownsRow base e size v n xs) (hb : Below w.heap.size w w') : w'.ownsRow base e size v n xs := by
  refine ⟨h.1, ?_⟩
  rcases h.2 with h' | ⟨g, cap, cur, h1, h2, h3, h4⟩
  · exact .inl h'
  · refine .inr ⟨g, cap, cur, h1, h2, ?_, h4⟩
    have hl : g < w.heap.size := by
      rcases Nat.lt_or_ge g w.heap.size with hlt | hge
      · exact hlt
      · rw [Array.getElem?_eq_none hge] at h3; cases h3
    rw [hb.block g hl]; exact h3

theorem own_mono {w : World} {base base' : Nat} {e : TypeId} {size : Nat} {v : Value} {n : Nat} {xs : List Value} (h : w.ownsRow base e size v n xs) (hb : base' ≤ base) : w.ownsRow base' e size v n xs := by
  refine ⟨h.1, ?_⟩
  rcases h.2 with h' | ⟨g, cap, cur, h1, h2, h3⟩
  · exact .inl h'
  · exact .inr ⟨g, cap, cur, h1, Nat.le_trans hb h2, h3⟩

/-- What append makes of a row of one and a row behind it. -/
def Joined (B : Nat) (W : World) (e : TypeId) (m : Nat) (xs : List Value) (v' : Value) (w' : World) : Prop := w'.ownsRow B e 1 v' m xs ∧ Below W.heap.size W w'

theorem run_append_front {P : Program} (W : World) (t ty e : TypeId) (z : Value) (bytes B H m : Nat) (x v : Value) (xs : List Value)
    (ht : P.underlying t = some (.slice e)) (hi : (P.info? e).map (fun i => (i.zero, i.size, i.bytes)) = some (some z, 1, bytes)) (hz : z.cells.size = 1)
    (h1 : W.ownsRow B e 1 (.slice (some ⟨H, 0, none⟩) 1 1) 1 [x]) (h2 : W.ownsRow B e 1 v m xs) (hm : m ≤ 1000) (hb : bytes ≤ 1000) :
    ∃ v' w', (Builtin.append_ #[t, t] ty #[.slice (some ⟨H, 0, none⟩) 1 1, v]).run P W = .ok v' w' ∧ Joined B W e (1 + m) (x :: xs) v' w' := by
  obtain ⟨i, hi0, hz0, hz1, hz2⟩ := info_parts hi
  rcases Nat.eq_zero_or_pos m with rfl | hm0
  · have hxs : xs = [] := List.eq_nil_of_length_eq_zero (by simpa using h2.1)
    subst hxs
    have hsrc : Src P i.size t v 0 [] W := by
      rcases h2.2 with ⟨rfl, _⟩ | ⟨g, cap, cur, rfl, _⟩
      · exact Src.ofNil W ht 0
      · exact Src.ofSlice W ht _ _ _ [] (by simp) (by intro j u h; simp at h) (by intro u h; cases h)
    have hr := run_append_room_src W t t ty e i ht hi0 H 0 1 1 v 0 [] hsrc (by omega) (by intro j hj; simp at hj) (by intro j hj; simp at hj)
    refine ⟨_, _, hr, ?_, ?_⟩
    · simpa [World.setCells] using h1
    · simp [World.setCells]; exact Below.refl _ _
  · obtain ⟨g, cap, rfl, hbg, hgl⟩ := h2.form hm0
    obtain ⟨v', w', hr, r1, r2⟩ := run_append_arg_grows (P := P) W t ty e i z 1 bytes ht hi0 hz0 hz1 hz2 hz (by decide) ⟨H, 0, none⟩ 1 1 [x] rfl (h1.cells rfl) ⟨g, 0, none⟩ m cap xs (by simpa using h2.1) (h2.cells rfl) (by omega) (by unfold maxLen; omega) (by
        have : (1 + m) * bytes ≤ 1001 * 1000 := Nat.mul_le_mul (by omega) hb
        omega)
    refine ⟨v', w', hr, ?_, (Below.refl _ _).grown r2 (Nat.le_refl _) (by intro k hk; cases hk)⟩
    exact own_mono r1 (by omega)
end Go.Proofs.Ytamhngjhgdmgbaa
