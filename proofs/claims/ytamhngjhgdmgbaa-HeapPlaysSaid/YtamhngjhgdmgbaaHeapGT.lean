/- pergolaref14.Heap: Top. -/
import Derived.Test.YtamhngjhgdmgbaaHeapG
import Derived.Deep.RegionWith
namespace Go.Proofs.Ytamhngjhgdmgbaa
open Go.RowKit

set_option maxHeartbeats 1000000 in
theorem rTop_none (B m : Nat) (v : Value) (w : World) (R : IsRef w B m v []) :
    Calls Try.prog 16 #[.pointer (some ⟨m, 0, none⟩)] w fun e w' => e = .returned (.tuple #[.agg #[.int .i64 0, .int .u64 0, .int .u64 0, .int .u64 0, .bool false, .int .i64 0], .bool false]) ∧ Below w.heap.size w w' := by
  obtain ⟨a, cap, hv⟩ := R.form
  have hl := R.blk.lt
  have k0 := R.blk.cell 0
  rw [hv] at k0
  simp at k0
  clear R hv
  go_enter Try.func16, Try.ntmps16
  go_wp2
  exact bodyPost_ret (v := .tuple #[.agg #[.int .i64 0, .int .u64 0, .int .u64 0, .int .u64 0, .bool false, .int .i64 0], .bool false]) (by simp [*, results, Try.results16, go_sem]) rfl ⟨rfl, by (repeat' (first | (with_reducible exact Below.refl _ _) | (with_reducible assumption) | (with_reducible refine Below.alloc ?_ ?_ _) | (with_reducible refine Below.drew ?_) | (with_reducible refine drewN_below ?_ _) | (with_reducible refine Below.setCell ?_ ?_ _) | (with_reducible refine below_call (by with_reducible assumption) ?_ ?_) | (first | (with_reducible exact Nat.le_refl _) | (with_reducible assumption) | omega | (simp; done) | (simp; omega))))⟩

set_option maxHeartbeats 4000000 in
theorem rTop_some (B m : Nat) (v : Value) (es : List Ent) (w : World) (R : IsRef w B m v es) (hp : 0 < es.length) (hm : es.length ≤ 1000) (x : Ent) (hx : es.getD (topF es es.length) e0 = x) :
    Calls Try.prog 16 #[.pointer (some ⟨m, 0, none⟩)] w fun e w' => e = .returned (.tuple #[.agg #[.int .i64 x.id, .int .u64 x.hi, .int .u64 x.lo, .int .u64 x.den, .bool x.item, .int .i64 x.node], .bool true]) ∧ Below w.heap.size w w' := by
  have hl := R.blk.lt
  have HT := fun (z : World) (hz : Below w.heap.size w z) => rtop_any B m v es z (R.grow hz) hm
  obtain ⟨g, cap, hv, _, hg, hne, _, hc⟩ := R.at_ hp
  have k0 := R.blk.cell 0
  have hq := topF_le es es.length es.length (Nat.le_refl _) hp
  have hcc := hc _ hq
  rw [hx] at hcc
  clear hx
  generalize topF es es.length = q at *
  have c0 := hcc 0 _ rfl
  have c1 := hcc 1 _ rfl
  have c2 := hcc 2 _ rfl
  have c3 := hcc 3 _ rfl
  have c4 := hcc 4 _ rfl
  have c5 := hcc 5 _ rfl
  rw [hv] at k0
  simp at k0 c0
  clear hc hcc R
  subst hv
  generalize es.length = n at *
  have hn : ((n : Int) == 0) = false := beq_eq_false_iff_ne.2 (by omega)
  have hn2 : (q : Int) < (n : Int) := by omega
  have hgs : g ≠ w.heap.size := by omega
  have hms : m ≠ w.heap.size := by omega
  go_enter Try.func16, Try.ntmps16
  go_wp2_with fail
  go_region_with (go_at_call 22; refine (HT _ (by (repeat' (first | (with_reducible exact Below.refl _ _) | (with_reducible assumption) | (with_reducible refine Below.alloc ?_ ?_ _) | (with_reducible refine Below.drew ?_) | (with_reducible refine drewN_below ?_ _) | (with_reducible refine Below.setCell ?_ ?_ _) | (with_reducible refine below_call (by with_reducible assumption) ?_ ?_) | (first | (with_reducible exact Nat.le_refl _) | (with_reducible assumption) | omega | (simp; done) | (simp; omega)))))).mono ?_; rintro e w' ⟨rfl, hB⟩; obtain ⟨hc, hf⟩ := keep hB; have hz := hB.size; try simp at hz)
  all_goals (go_wp2_with fail)
  all_goals (exact bodyPost_ret (v := .tuple #[.agg #[.int .i64 x.id, .int .u64 x.hi, .int .u64 x.lo, .int .u64 x.den, .bool x.item, .int .i64 x.node], .bool true]) (by simp [*, results, Try.results16, go_sem]) rfl ⟨rfl, by (repeat' (first | (with_reducible exact Below.refl _ _) | (with_reducible assumption) | (with_reducible refine Below.alloc ?_ ?_ _) | (with_reducible refine Below.drew ?_) | (with_reducible refine drewN_below ?_ _) | (with_reducible refine Below.setCell ?_ ?_ _) | (with_reducible refine below_call (by with_reducible assumption) ?_ ?_) | (first | (with_reducible exact Nat.le_refl _) | (with_reducible assumption) | omega | (simp; done) | (simp; omega))))⟩)
end Go.Proofs.Ytamhngjhgdmgbaa
