/- pergolaref14.LessEntry; pergolalaw15.made. -/
import Derived.Test.YtamhngjhgdmgbaaHeapA
import Derived.Test.YtamhngjhgdmgbaaRTimes
namespace Go.Proofs.Ytamhngjhgdmgbaa
open Go.RowKit

set_option maxHeartbeats 1000000 in
theorem made_any (id hi lo den : Int) (item : Bool) (node : Int) (w : World) :
    Calls Try.prog 11 #[.agg #[.int .i64 id, .int .u64 hi, .int .u64 lo, .int .u64 den, .bool item, .int .i64 node]] w fun e w' => e = .returned (.agg #[.int .i64 id, .int .u64 hi, .int .u64 lo, .int .u64 den, .bool item, .int .i64 node]) ∧ Below w.heap.size w w' := by
  go_enter Try.func11, Try.ntmps11
  go_wp2
  exact bodyPost_ret (v := .agg #[.int .i64 id, .int .u64 hi, .int .u64 lo, .int .u64 den, .bool item, .int .i64 node]) (by simp [*, results, Try.results11, go_sem]) rfl ⟨rfl, by (repeat' (first | (with_reducible exact Below.refl _ _) | (with_reducible assumption) | (with_reducible refine Below.alloc ?_ ?_ _) | (with_reducible refine Below.drew ?_) | (with_reducible refine drewN_below ?_ _) | (with_reducible refine Below.setCell ?_ ?_ _) | (with_reducible refine below_call (by with_reducible assumption) ?_ ?_) | (first | (with_reducible exact Nat.le_refl _) | (with_reducible assumption) | omega | (simp; done) | (simp; omega))))⟩

theorem cmpE_less (ai ah al ad : Int) (am : Bool) (an bi bh bl bd : Int) (bm : Bool) (bn : Int) :
    decide (cmpE ai ah al ad am an bi bh bl bd bm bn < 0) = if cmpD ah al ad bh bl bd = 0 then (if am = bm then (if am = true then decide (ai < bi) else decide (an < bn)) else bm) else decide (cmpD ah al ad bh bl bd < 0) := by
  unfold cmpE
  generalize cmpD ah al ad bh bl bd = K
  have hc : ∀ x y : Int, decide (orV [cmpV x y] < 0) = decide (x < y) := by
    intro x y
    have e : orV [cmpV x y] = cmpV x y := by simp [orV]; exact fun h => h.symm
    rw [e]
    unfold cmpV
    by_cases h1 : x < y
    · simp [h1]
    · simp [h1]; try (split <;> simp)
  by_cases hk : K = 0
  · subst hk
    rw [if_pos rfl]
    have e : ∀ y z : Int, orV [0, y, z] = orV [y, z] := by intro y z; simp [orV]
    rw [e]
    cases am <;> cases bm
    · have e2 : orV [cmpV (rankE false) (rankE false), cmpV (numE ai false an) (numE bi false bn)] = orV [cmpV an bn] := rfl
      rw [e2, hc]; rfl
    · rfl
    · rfl
    · have e2 : orV [cmpV (rankE true) (rankE true), cmpV (numE ai true an) (numE bi true bn)] = orV [cmpV ai bi] := rfl
      rw [e2, hc]; rfl
  · rw [if_neg hk]
    have e : ∀ y z : Int, orV [K, y, z] = K := by intro y z; simp [orV, hk]
    rw [e]

set_option maxHeartbeats 2000000 in
theorem lessEntry_any (ai ah al ad : Int) (am : Bool) (an bi bh bl bd : Int) (bm : Bool) (bn : Int) (h1 : Word ah) (h2 : Word al) (h3 : Word ad) (h4 : Word bh) (h5 : Word bl) (h6 : Word bd) (w : World) :
    Calls Try.prog 20 #[.agg #[.int .i64 ai, .int .u64 ah, .int .u64 al, .int .u64 ad, .bool am, .int .i64 an], .agg #[.int .i64 bi, .int .u64 bh, .int .u64 bl, .int .u64 bd, .bool bm, .int .i64 bn]] w fun e w' => e = .returned (.bool (decide (cmpE ai ah al ad am an bi bh bl bd bm bn < 0))) ∧ Below w.heap.size w w' := by
  have HC := fun w => rcompareDist_any ah al ad bh bl bd h1 h2 h3 h4 h5 h6 w
  rw [cmpE_less]
  generalize cmpD ah al ad bh bl bd = K at *
  clear h1 h2 h3 h4 h5 h6
  by_cases hk : K = 0
  · subst hk
    rw [if_pos rfl]
    cases am <;> cases bm
    all_goals
      go_enter Try.func20, Try.ntmps20
      go_wp2_with fail
      refine (HC _).mono ?_; rintro e w1 ⟨rfl, hB1⟩; obtain ⟨hc1, hf1⟩ := keep hB1; have hz1 := hB1.size; try simp at hz1
      go_wp2
      go_ret
      exact ⟨rfl, by (repeat' (first | (with_reducible exact Below.refl _ _) | (with_reducible assumption) | (with_reducible refine Below.alloc ?_ ?_ _) | (with_reducible refine Below.drew ?_) | (with_reducible refine drewN_below ?_ _) | (with_reducible refine Below.setCell ?_ ?_ _) | (with_reducible refine below_call (by with_reducible assumption) ?_ ?_) | (first | (with_reducible exact Nat.le_refl _) | (with_reducible assumption) | omega | (simp; done) | (simp; omega))))⟩
  · rw [if_neg hk]
    have hb : (K != 0) = true := bne_iff_ne.2 hk
    go_enter Try.func20, Try.ntmps20
    go_wp2_with fail
    refine (HC _).mono ?_; rintro e w1 ⟨rfl, hB1⟩; obtain ⟨hc1, hf1⟩ := keep hB1; have hz1 := hB1.size; try simp at hz1
    go_wp2
    go_ret
    exact ⟨rfl, by (repeat' (first | (with_reducible exact Below.refl _ _) | (with_reducible assumption) | (with_reducible refine Below.alloc ?_ ?_ _) | (with_reducible refine Below.drew ?_) | (with_reducible refine drewN_below ?_ _) | (with_reducible refine Below.setCell ?_ ?_ _) | (with_reducible refine below_call (by with_reducible assumption) ?_ ?_) | (first | (with_reducible exact Nat.le_refl _) | (with_reducible assumption) | omega | (simp; done) | (simp; omega))))⟩
end Go.Proofs.Ytamhngjhgdmgbaa
