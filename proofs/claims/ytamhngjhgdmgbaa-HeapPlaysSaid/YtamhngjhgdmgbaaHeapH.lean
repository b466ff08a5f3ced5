/- Package heap: what a heap holds, whatever its order in memory; Push, Pop, Top, Len by it. -/
import Derived.Test.YtamhngjhgdmgbaaHeapN
import Derived.Test.YtamhngjhgdmgbaaHeapP
import Derived.Test.YtamhngjhgdmgbaaHeapQ
namespace Go.Proofs.Ytamhngjhgdmgbaa
open Go.RowKit

/-- The heap at h holds those of l. -/
def HeapOf (w : World) (B h : Nat) (v : Value) (l : List Psh) (c : Int) : Prop := ∃ xs, IsHeap w B h v xs c ∧ OrdG p0 leP xs ∧ xs.Perm l
/-- p is one of l, and none of l stands ahead of it. -/
def Least (p : Psh) (l : List Psh) : Prop := p ∈ l ∧ ∀ q ∈ l, leP p q

theorem HeapOf.perm {w : World} {B h : Nat} {v : Value} {l l' : List Psh} {c : Int} (H : HeapOf w B h v l c) (hp : l.Perm l') : HeapOf w B h v l' c := by
  obtain ⟨xs, a, b, e⟩ := H
  exact ⟨xs, a, b, e.trans hp⟩
theorem HeapOf.grow {w w' : World} {B h : Nat} {v : Value} {l : List Psh} {c : Int} (H : HeapOf w B h v l c) (hb : Below w.heap.size w w') : HeapOf w' B h v l c := by
  obtain ⟨xs, a, b, e⟩ := H
  exact ⟨xs, a.grow hb, b, e⟩
theorem HeapOf.lt {w : World} {B h : Nat} {v : Value} {l : List Psh} {c : Int} (H : HeapOf w B h v l c) : h < w.heap.size := by
  obtain ⟨xs, a, _⟩ := H
  exact a.blk.lt
theorem HeapOf.base {w : World} {B h : Nat} {v : Value} {l : List Psh} {c : Int} (H : HeapOf w B h v l c) : B ≤ h := by
  obtain ⟨xs, a, _⟩ := H
  exact a.base
theorem HeapOf.own_lt {w : World} {B h : Nat} {v : Value} {l : List Psh} {c : Int} (H : HeapOf w B h v l c) {g : Nat} (hg : v.ownBlock = some g) : B ≤ g ∧ g < w.heap.size := by
  obtain ⟨xs, a, _⟩ := H
  exact a.own_lt hg
theorem HeapOf.apart {w : World} {B h : Nat} {v : Value} {l : List Psh} {c : Int} (H : HeapOf w B h v l c) {g : Nat} (hg : v.ownBlock = some g) : g ≠ h := by
  obtain ⟨xs, a, _⟩ := H
  exact a.apart g hg
theorem HeapOf.beside {w w' : World} {B B' h h' : Nat} {v v' : Value} {l : List Psh} {c : Int} (H : HeapOf w B h v l c) (k : Kept B' h' v' w w') (h1 : h ≠ h') (h2 : v'.ownBlock ≠ some h) (h3 : ∀ g, v.ownBlock = some g → g ≠ h' ∧ v'.ownBlock ≠ some g) : HeapOf w' B h v l c := by
  obtain ⟨xs, a, b, e⟩ := H
  exact ⟨xs, a.beside k h1 h2 h3, b, e⟩
theorem top_least {w : World} {B h : Nat} {v : Value} {xs l : List Psh} {c : Int} (a : IsHeap w B h v xs c) (b : OrdG p0 leP xs) (e : xs.Perm l) (hl : 0 < l.length) : Least (xs.getD 0 p0) l := by
  have hx : 0 < xs.length := by rw [e.length_eq]; exact hl
  refine ⟨e.mem_iff.1 (by rw [List.getD_eq_getElem?_getD, List.getElem?_eq_getElem hx]; exact List.getElem_mem _), fun q hq => ?_⟩
  obtain ⟨i, hi, rfl⟩ := List.getElem_of_mem (e.mem_iff.2 hq)
  have := ord_top (le := leP) (d := p0) (S := fun p => WordE p.e) (fun _ _ _ a b c => leP_trans a b c) (fun x _ => leP_refl x) (fun i hi => a.word_at hi) b i hi
  rw [List.getD_eq_getElem?_getD (l := xs) (i := i), List.getElem?_eq_getElem hi] at this
  exact this

theorem newH_any (w : World) :
    Calls Try.prog 9 #[] w fun e w' => ∃ h, e = .returned (.pointer (some ⟨h, 0, none⟩)) ∧ HeapOf w' w.heap.size h (.slice none 0 0) [] 0 ∧ Below w.heap.size w w' ∧ w.heap.size ≤ h := by
  refine (new_any w).mono ?_
  rintro e w' ⟨h, a, b, c, d⟩
  exact ⟨h, a, ⟨[], b, fun i _ hi => by simp at hi, List.Perm.refl _⟩, c, d⟩
theorem pushH_any (B h : Nat) (v : Value) (l : List Psh) (c : Int) (x : Ent) (w : World) (H : HeapOf w B h v l c) (hc : 0 ≤ c ∧ c ≤ 1000) (hm : l.length ≤ 1000) (hx : WordE x) :
    Calls Try.prog 10 #[.pointer (some ⟨h, 0, none⟩), .agg #[.int .i64 x.id, .int .u64 x.hi, .int .u64 x.lo, .int .u64 x.den, .bool x.item, .int .i64 x.node]] w fun e w' => e = .returned (.tuple #[]) ∧ ∃ v', HeapOf w' B h v' (l ++ [⟨x, c + 1⟩]) (c + 1) ∧ Kept B h v w w' ∧ Own v v' w := by
  obtain ⟨xs, a, b, e⟩ := H
  refine (push_any B h v xs c x w a hc (by rw [e.length_eq]; exact hm) hx b).mono ?_
  rintro r w' ⟨hr, v', xs', h1, h2, h3, h4, h5⟩
  exact ⟨hr, v', ⟨xs', h1, h2, h3.trans (e.append_right _)⟩, h4, h5⟩
theorem lenH_any (B h : Nat) (v : Value) (l : List Psh) (c : Int) (w : World) (H : HeapOf w B h v l c) :
    Calls Try.prog 17 #[.pointer (some ⟨h, 0, none⟩)] w fun e w' => e = .returned (.int .i64 l.length) ∧ w = w' := by
  obtain ⟨xs, a, b, e⟩ := H
  rw [← e.length_eq]
  exact len_any B h v xs c w a
theorem popH_some (B h : Nat) (v : Value) (l : List Psh) (c : Int) (w : World) (H : HeapOf w B h v l c) (hl : 0 < l.length) (hm : l.length ≤ 1000) :
    Calls Try.prog 12 #[.pointer (some ⟨h, 0, none⟩)] w fun e w' => ∃ p l' v', e = .returned (.tuple #[.agg #[.int .i64 p.e.id, .int .u64 p.e.hi, .int .u64 p.e.lo, .int .u64 p.e.den, .bool p.e.item, .int .i64 p.e.node], .bool true]) ∧
      Least p l ∧ (p :: l').Perm l ∧ HeapOf w' B h v' l' c ∧ Kept B h v w w' ∧ Own v v' w := by
  obtain ⟨xs, a, b, e⟩ := H
  have ht := top_least a b e hl
  have hx := e.length_eq
  refine (pop_some B h v xs c w a (l.length - 1) (by omega) (by omega) b _ rfl).mono ?_
  rintro r w' ⟨hr, v', xs', h1, h2, h3, h4, h5⟩
  exact ⟨_, xs', v', hr, ht, h3.trans e, ⟨xs', h1, h2, List.Perm.refl _⟩, h4, h5⟩
theorem popH_none (B h : Nat) (v : Value) (c : Int) (w : World) (H : HeapOf w B h v [] c) :
    Calls Try.prog 12 #[.pointer (some ⟨h, 0, none⟩)] w fun e w' => e = .returned (.tuple #[.agg #[.int .i64 0, .int .u64 0, .int .u64 0, .int .u64 0, .bool false, .int .i64 0], .bool false]) ∧ Below w.heap.size w w' := by
  obtain ⟨xs, a, b, e⟩ := H
  rw [e.eq_nil] at a
  exact pop_none B h v c w a
theorem topH_some (B h : Nat) (v : Value) (l : List Psh) (c : Int) (w : World) (H : HeapOf w B h v l c) (hl : 0 < l.length) :
    Calls Try.prog 15 #[.pointer (some ⟨h, 0, none⟩)] w fun e w' => ∃ p, e = .returned (.tuple #[.agg #[.int .i64 p.e.id, .int .u64 p.e.hi, .int .u64 p.e.lo, .int .u64 p.e.den, .bool p.e.item, .int .i64 p.e.node], .bool true]) ∧ Least p l ∧ Below w.heap.size w w' := by
  obtain ⟨xs, a, b, e⟩ := H
  have ht := top_least a b e hl
  refine (top_some B h v xs c w a (by rw [e.length_eq]; exact hl) _ rfl).mono ?_
  rintro r w' ⟨hr, hB⟩
  exact ⟨_, hr, ht, hB⟩
theorem topH_none (B h : Nat) (v : Value) (c : Int) (w : World) (H : HeapOf w B h v [] c) :
    Calls Try.prog 15 #[.pointer (some ⟨h, 0, none⟩)] w fun e w' => e = .returned (.tuple #[.agg #[.int .i64 0, .int .u64 0, .int .u64 0, .int .u64 0, .bool false, .int .i64 0], .bool false]) ∧ Below w.heap.size w w' := by
  obtain ⟨xs, a, b, e⟩ := H
  rw [e.eq_nil] at a
  exact top_none B h v c w a

/-- The least one is told by what it was pushed as. -/
theorem Least.same {p q : Psh} {l : List Psh} (hp : Least p l) (hq : Least q l) (hd : l.Pairwise (fun a b => a.c ≠ b.c)) : p = q := by
  have hc := leP_anti (hp.2 q hq.1) (hq.2 p hp.1)
  obtain ⟨i, hi, rfl⟩ := List.getElem_of_mem hp.1
  obtain ⟨j, hj, rfl⟩ := List.getElem_of_mem hq.1
  rw [List.pairwise_iff_getElem] at hd
  rcases Nat.lt_trichotomy i j with h | h | h
  · exact absurd hc (hd i j hi hj h)
  · subst h; rfl
  · exact absurd hc.symm (hd j i hj hi h)
end Go.Proofs.Ytamhngjhgdmgbaa
