/- Package heap: Top. -/
import Derived.Test.YtamhngjhgdmgbaaHeapC
namespace Go.Proofs.Ytamhngjhgdmgbaa
open Go.RowKit

set_option maxHeartbeats 1000000 in
theorem top_none (B h : Nat) (v : Value) (c : Int) (w : World) (H : IsHeap w B h v [] c) :
    Calls Try.prog 15 #[.pointer (some ⟨h, 0, none⟩)] w fun e w' => e = .returned (.tuple #[.agg #[.int .i64 0, .int .u64 0, .int .u64 0, .int .u64 0, .bool false, .int .i64 0], .bool false]) ∧ Below w.heap.size w w' := by
  have hl := H.blk.lt
  have HL := fun (z : World) (hz : Below w.heap.size w z) => len_any B h v [] c z ⟨blk_grow H.blk hz, ownsRow_below H.own hz, H.apart, H.base, H.word⟩
  clear H
  go_enter Try.func15, Try.ntmps15
  go_wp2_with fail
  refine (HL _ (by (repeat' (first | (with_reducible exact Below.refl _ _) | (with_reducible assumption) | (with_reducible refine Below.alloc ?_ ?_ _) | (with_reducible refine Below.drew ?_) | (with_reducible refine drewN_below ?_ _) | (with_reducible refine Below.setCell ?_ ?_ _) | (with_reducible refine below_call (by with_reducible assumption) ?_ ?_) | (first | (with_reducible exact Nat.le_refl _) | (with_reducible assumption) | omega | (simp; done) | (simp; omega)))))).mono ?_
  rintro e w' ⟨rfl, rfl⟩
  go_wp2
  exact bodyPost_ret (v := .tuple #[.agg #[.int .i64 0, .int .u64 0, .int .u64 0, .int .u64 0, .bool false, .int .i64 0], .bool false]) (by simp [*, results, Try.results15, go_sem]) rfl ⟨rfl, by (repeat' (first | (with_reducible exact Below.refl _ _) | (with_reducible assumption) | (with_reducible refine Below.alloc ?_ ?_ _) | (with_reducible refine Below.drew ?_) | (with_reducible refine drewN_below ?_ _) | (with_reducible refine Below.setCell ?_ ?_ _) | (with_reducible refine below_call (by with_reducible assumption) ?_ ?_) | (first | (with_reducible exact Nat.le_refl _) | (with_reducible assumption) | omega | (simp; done) | (simp; omega))))⟩

set_option maxHeartbeats 2000000 in
theorem top_some (B h : Nat) (v : Value) (xs : List Psh) (c : Int) (w : World) (H : IsHeap w B h v xs c) (hp : 0 < xs.length) (x : Ent) (hx : (xs.getD 0 p0).e = x) :
    Calls Try.prog 15 #[.pointer (some ⟨h, 0, none⟩)] w fun e w' => e = .returned (.tuple #[.agg #[.int .i64 x.id, .int .u64 x.hi, .int .u64 x.lo, .int .u64 x.den, .bool x.item, .int .i64 x.node], .bool true]) ∧ Below w.heap.size w w' := by
  have hl := H.blk.lt
  have HL := fun (z : World) (hz : Below w.heap.size w z) => len_any B h v xs c z ⟨blk_grow H.blk hz, ownsRow_below H.own hz, H.apart, H.base, H.word⟩
  obtain ⟨g, cap, hv, _, hg, hne, hc⟩ := H.at_ hp
  have k0 := H.blk.cell 0
  have c0 := hc 0 hp 0 _ rfl
  have c1 := hc 0 hp 1 _ rfl
  have c2 := hc 0 hp 2 _ rfl
  have c3 := hc 0 hp 3 _ rfl
  have c4 := hc 0 hp 4 _ rfl
  have c5 := hc 0 hp 5 _ rfl
  rw [hx] at c0 c1 c2 c3 c4 c5
  rw [hv] at k0
  simp at k0 c0 c1 c2 c3 c4 c5
  clear hc hx H
  subst hv
  generalize xs.length = n at *
  have hn : ((n : Int) == 0) = false := beq_eq_false_iff_ne.2 (by omega)
  have hn2 : (0 : Int) < (n : Int) := by omega
  go_enter Try.func15, Try.ntmps15
  go_wp2_with fail
  refine (HL _ (by (repeat' (first | (with_reducible exact Below.refl _ _) | (with_reducible assumption) | (with_reducible refine Below.alloc ?_ ?_ _) | (with_reducible refine Below.drew ?_) | (with_reducible refine drewN_below ?_ _) | (with_reducible refine Below.setCell ?_ ?_ _) | (with_reducible refine below_call (by with_reducible assumption) ?_ ?_) | (first | (with_reducible exact Nat.le_refl _) | (with_reducible assumption) | omega | (simp; done) | (simp; omega)))))).mono ?_
  rintro e w' ⟨rfl, rfl⟩
  go_wp2
  exact bodyPost_ret (v := .tuple #[.agg #[.int .i64 x.id, .int .u64 x.hi, .int .u64 x.lo, .int .u64 x.den, .bool x.item, .int .i64 x.node], .bool true]) (by simp [*, results, Try.results15, go_sem]) rfl ⟨rfl, by (repeat' (first | (with_reducible exact Below.refl _ _) | (with_reducible assumption) | (with_reducible refine Below.alloc ?_ ?_ _) | (with_reducible refine Below.drew ?_) | (with_reducible refine drewN_below ?_ _) | (with_reducible refine Below.setCell ?_ ?_ _) | (with_reducible refine below_call (by with_reducible assumption) ?_ ?_) | (first | (with_reducible exact Nat.le_refl _) | (with_reducible assumption) | omega | (simp; done) | (simp; omega))))⟩
end Go.Proofs.Ytamhngjhgdmgbaa
