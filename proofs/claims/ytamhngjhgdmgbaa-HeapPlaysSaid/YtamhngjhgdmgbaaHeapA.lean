/- Package heap: rank, number, compare, Less. -/
import Derived.Test.YtamhngjhgdmgbaaRatioC
namespace Go.Proofs.Ytamhngjhgdmgbaa
open Go.RowKit

def entV (id hi lo den : Int) (item : Bool) (node : Int) : Value := .agg #[.int .i64 id, .int .u64 hi, .int .u64 lo, .int .u64 den, .bool item, .int .i64 node]
def rankE (item : Bool) : Int := if item then 1 else 0
def numE (id : Int) (item : Bool) (node : Int) : Int := if item then id else node

set_option maxHeartbeats 1000000 in
theorem rank_any (id hi lo den : Int) (item : Bool) (node : Int) (w : World) :
    Calls Try.prog 28 #[.agg #[.int .i64 id, .int .u64 hi, .int .u64 lo, .int .u64 den, .bool item, .int .i64 node]] w fun e w' => e = .returned (.int .i64 (rankE item)) ∧ Below w.heap.size w w' := by
  cases item
  all_goals
    go_enter Try.func28, Try.ntmps28
    go_wp2
    go_ret
    exact ⟨rfl, by (repeat' (first | (with_reducible exact Below.refl _ _) | (with_reducible assumption) | (with_reducible refine Below.alloc ?_ ?_ _) | (with_reducible refine Below.drew ?_) | (with_reducible refine drewN_below ?_ _) | (with_reducible refine Below.setCell ?_ ?_ _) | (with_reducible refine below_call (by with_reducible assumption) ?_ ?_) | (first | (with_reducible exact Nat.le_refl _) | (with_reducible assumption) | omega | (simp; done) | (simp; omega))))⟩
set_option maxHeartbeats 1000000 in
theorem number_any (id hi lo den : Int) (item : Bool) (node : Int) (w : World) :
    Calls Try.prog 29 #[.agg #[.int .i64 id, .int .u64 hi, .int .u64 lo, .int .u64 den, .bool item, .int .i64 node]] w fun e w' => e = .returned (.int .i64 (numE id item node)) ∧ Below w.heap.size w w' := by
  cases item
  all_goals
    go_enter Try.func29, Try.ntmps29
    go_wp2
    go_ret
    exact ⟨rfl, by (repeat' (first | (with_reducible exact Below.refl _ _) | (with_reducible assumption) | (with_reducible refine Below.alloc ?_ ?_ _) | (with_reducible refine Below.drew ?_) | (with_reducible refine drewN_below ?_ _) | (with_reducible refine Below.setCell ?_ ?_ _) | (with_reducible refine below_call (by with_reducible assumption) ?_ ?_) | (first | (with_reducible exact Nat.le_refl _) | (with_reducible assumption) | omega | (simp; done) | (simp; omega))))⟩

/-- How two entries stand. -/
def cmpE (ai ah al ad : Int) (am : Bool) (an bi bh bl bd : Int) (bm : Bool) (bn : Int) : Int := orV [cmpD ah al ad bh bl bd, cmpV (rankE am) (rankE bm), cmpV (numE ai am an) (numE bi bm bn)]

set_option maxHeartbeats 4000000 in
theorem hcompare_any (ai ah al ad : Int) (am : Bool) (an bi bh bl bd : Int) (bm : Bool) (bn : Int) (h1 : Word ah) (h2 : Word al) (h3 : Word ad) (h4 : Word bh) (h5 : Word bl) (h6 : Word bd) (w : World) :
    Calls Try.prog 23 #[.agg #[.int .i64 ai, .int .u64 ah, .int .u64 al, .int .u64 ad, .bool am, .int .i64 an], .agg #[.int .i64 bi, .int .u64 bh, .int .u64 bl, .int .u64 bd, .bool bm, .int .i64 bn]] w fun e w' => e = .returned (.int .i64 (cmpE ai ah al ad am an bi bh bl bd bm bn)) ∧ Below w.heap.size w w' := by
  have HC := fun w => rcmp_any ah al ad bh bl bd h1 h2 h3 h4 h5 h6 w
  unfold cmpE
  generalize cmpD ah al ad bh bl bd = K at *
  clear h1 h2 h3 h4 h5 h6
  go_enter Try.func23, Try.ntmps23
  go_wp2
  (refine wp_region_bar 17 (by kernel_rfl) (by kernel_rfl) (by kernel_rfl) ?_; change StepsT _ _ _ _ [_, _, _, _, _, _, _, _, _, _, _, _, _, _, _, _, _] _; (repeat (first | (refine stepT_val (v := ?_) (by rfl) ?_ ?_; rotate_left; (· (intro z hz; obtain ⟨hc, hf⟩ := keep hz; go_simp; first | done | (with_reducible rfl))); (try simp only [Act.put, List.setIfInBounds_toArray, List.set_cons_zero, List.set_cons_succ])) | (refine stepT_skip (by rfl) ?_; (try simp only [Act.put, List.setIfInBounds_toArray, List.set_cons_zero, List.set_cons_succ])) | (refine stepT_call (v := ?_) (f := ?_) (args := ?_) (by rfl) ?_ ?_ ?_; rotate_left; rotate_left; rotate_left; (· (intro z hz; obtain ⟨hc, hf⟩ := keep hz; go_simp; first | done | (with_reducible rfl) | (constructor <;> with_reducible rfl))); (· (intro z hz; first | (go_at_call 26; refine (cmpI_any _ _ _).mono ?_; rintro e w' ⟨rfl, rfl⟩; refine ⟨?_, hz⟩; with_reducible rfl) | (go_at_call 28; refine (rank_any _ _ _ _ _ _ _).mono ?_; rintro e w' ⟨rfl, hB⟩; refine ⟨?_, hz.trans (hB.mono hz.size)⟩; with_reducible rfl) | (go_at_call 29; refine (number_any _ _ _ _ _ _ _).mono ?_; rintro e w' ⟨rfl, hB⟩; refine ⟨?_, hz.trans (hB.mono hz.size)⟩; with_reducible rfl) | (go_at_call 27; refine (HC _).mono ?_; rintro e w' ⟨rfl, hB⟩; refine ⟨?_, hz.trans (hB.mono hz.size)⟩; with_reducible rfl))); (try simp only [Act.put, List.setIfInBounds_toArray, List.set_cons_zero, List.set_cons_succ])))); refine stepT_end ?_; intro z0 hz0; obtain ⟨hc0, hf0⟩ := keep hz0; have hs0 := hz0.size; try simp at hs0); (refine bar_val (v := ?_) (z' := ?_) (by rfl) (by rfl) ?_ ?_; rotate_left; rotate_left; (· (go_simp; first | done | (with_reducible rfl) | (constructor <;> with_reducible rfl))); (try simp only [Act.put, List.setIfInBounds_toArray, List.set_cons_zero, List.set_cons_succ]); change Steps _ _ _ _ [_, _] _); ((repeat (first | (refine step_val (v := ?_) (by rfl) ?_ ?_; rotate_left; (· (intro z hz; obtain ⟨hc, hf⟩ := keep hz; go_simp; first | done | (with_reducible rfl))); (try simp only [Act.put, List.setIfInBounds_toArray, List.set_cons_zero, List.set_cons_succ])) | (refine step_skip (by rfl) ?_; (try simp only [Act.put, List.setIfInBounds_toArray, List.set_cons_zero, List.set_cons_succ])) | (refine step_call (v := ?_) (f := ?_) (args := ?_) (by rfl) ?_ ?_ ?_; rotate_left; rotate_left; rotate_left; (· (intro z hz; go_simp; first | done | (with_reducible rfl) | (constructor <;> with_reducible rfl))); (· (intro z hz; first | (go_at_call 26; refine (cmpI_any _ _ _).mono ?_; rintro e w' ⟨rfl, rfl⟩; refine ⟨?_, hz⟩; with_reducible rfl) | (go_at_call 28; refine (rank_any _ _ _ _ _ _ _).mono ?_; rintro e w' ⟨rfl, hB⟩; refine ⟨?_, hz.trans (hB.mono hz.size)⟩; with_reducible rfl) | (go_at_call 29; refine (number_any _ _ _ _ _ _ _).mono ?_; rintro e w' ⟨rfl, hB⟩; refine ⟨?_, hz.trans (hB.mono hz.size)⟩; with_reducible rfl) | (go_at_call 27; refine (HC _).mono ?_; rintro e w' ⟨rfl, hB⟩; refine ⟨?_, hz.trans (hB.mono hz.size)⟩; with_reducible rfl) | (go_at_call 25; obtain ⟨hc, hf⟩ := keep hz; have hzz := hz.size; try simp at hzz; refine (or3_any _ K (cmpV (rankE am) (rankE bm)) (cmpV (numE ai am an) (numE bi bm bn)) _ (by go_simp) (by go_simp) (by go_simp)).mono ?_; rintro e w' ⟨rfl, rfl⟩; refine ⟨?_, hz⟩; with_reducible rfl))); (try simp only [Act.put, List.setIfInBounds_toArray, List.set_cons_zero, List.set_cons_succ])))); refine steps_end ?_; intro w' hB; obtain ⟨hc, hf⟩ := keep hB; have hz := hB.size; try simp at hz)
  go_wp2
  go_ret
  exact ⟨rfl, by (repeat' (first | (with_reducible exact Below.refl _ _) | (with_reducible assumption) | (with_reducible refine Below.alloc ?_ ?_ _) | (with_reducible refine Below.drew ?_) | (with_reducible refine drewN_below ?_ _) | (with_reducible refine Below.setCell ?_ ?_ _) | (with_reducible refine below_call (by with_reducible assumption) ?_ ?_) | (first | (with_reducible exact Nat.le_refl _) | (with_reducible assumption) | omega | (simp; done) | (simp; omega))))⟩

set_option maxHeartbeats 1000000 in
theorem hless_any (ai ah al ad : Int) (am : Bool) (an bi bh bl bd : Int) (bm : Bool) (bn : Int) (h1 : Word ah) (h2 : Word al) (h3 : Word ad) (h4 : Word bh) (h5 : Word bl) (h6 : Word bd) (w : World) :
    Calls Try.prog 19 #[.agg #[.int .i64 ai, .int .u64 ah, .int .u64 al, .int .u64 ad, .bool am, .int .i64 an], .agg #[.int .i64 bi, .int .u64 bh, .int .u64 bl, .int .u64 bd, .bool bm, .int .i64 bn]] w fun e w' => e = .returned (.bool (decide (cmpE ai ah al ad am an bi bh bl bd bm bn < 0))) ∧ Below w.heap.size w w' := by
  have HC := fun w => hcompare_any ai ah al ad am an bi bh bl bd bm bn h1 h2 h3 h4 h5 h6 w
  generalize cmpE ai ah al ad am an bi bh bl bd bm bn = K at *
  clear h1 h2 h3 h4 h5 h6
  go_enter Try.func19, Try.ntmps19
  go_wp2_with fail
  refine (HC _).mono ?_; rintro e w1 ⟨rfl, hB1⟩; obtain ⟨hc1, hf1⟩ := keep hB1; have hz1 := hB1.size; try simp at hz1
  go_wp2
  go_ret
  exact ⟨rfl, by (repeat' (first | (with_reducible exact Below.refl _ _) | (with_reducible assumption) | (with_reducible refine Below.alloc ?_ ?_ _) | (with_reducible refine Below.drew ?_) | (with_reducible refine drewN_below ?_ _) | (with_reducible refine Below.setCell ?_ ?_ _) | (with_reducible refine below_call (by with_reducible assumption) ?_ ?_) | (first | (with_reducible exact Nat.le_refl _) | (with_reducible assumption) | omega | (simp; done) | (simp; omega))))⟩
end Go.Proofs.Ytamhngjhgdmgbaa
