/- RatioMins: the least of two lists together is the least of both lists' least ones, and none of either list is less. For every two lists; no condition. -/
import Derived.Test.YthamagnlpndnoaaDoorL2Awake
import Derived.Test.YthamagnlpndnoaaDoorOpenNear
import Derived.Test.YthamagnlpndnoaaDoorMinRows
import Derived.Test.YthamagnlpndnoaaDoorRegionLoose
import Derived.Test.YthamagnlpndnoaaDoorTied
import Derived.Test.YthamagnlpndnoaaDoorTie
import Derived.Test.YthamagnlpndnoaaDoorCards
namespace Go.Proofs.YthamagnlpndnoaaDoor
open Go.ChangeShapes Go.WideShapes Go.ChangeAt Go.RowKit

/-- The value is a list of fractions whose least one is this. -/
structure MinIs (w : World) (v : Value) (A : D3) : Prop where
  ex : ∃ ds, IsDists w v ds ∧ ds.length ≤ 1000000000000 ∧ minL ds = A
theorem MinIs.keep {w w' : World} {v : Value} {A : D3} (h : MinIs w v A) (hb : Below w.heap.size w w') : MinIs w' v A := by
  obtain ⟨ds, h1, h2, h3⟩ := h.ex
  exact ⟨ds, h1.keep hb, h2, h3⟩
theorem minIs_any (v : Value) (a b c : Int) (w : World) (h : MinIs w v (a, b, c)) :
    Calls Tryd.prog 21 #[v] w fun e w' => e = .returned (.agg #[.int .u64 a, .int .u64 b, .int .u64 c]) ∧ Below w.heap.size w w' := by
  obtain ⟨ds, h1, h2, h3⟩ := h.ex
  have h4 := min_any v ds w h1 h2
  rw [h3] at h4
  exact h4
theorem minIs_none (w : World) : MinIs w (.slice none 0 0) (0, 0, 0) :=
  ⟨[], ⟨⟨none, 0, rfl, fun h => absurd h (by decide)⟩, fun _ h => by cases h⟩, by simp, rfl⟩
theorem minIs_pair {x y M : D3} (hx : WordD x) (hy : WordD y) (hM : M = minD x y) : ∀ (g : Nat) (w : World), g < w.heap.size →
    w.cell? ⟨g, 0, none⟩ = some (.int .u64 x.1) → w.cell? ⟨g, 1, none⟩ = some (.int .u64 x.2.1) → w.cell? ⟨g, 2, none⟩ = some (.int .u64 x.2.2) →
    w.cell? ⟨g, 3, none⟩ = some (.int .u64 y.1) → w.cell? ⟨g, 4, none⟩ = some (.int .u64 y.2.1) → w.cell? ⟨g, 5, none⟩ = some (.int .u64 y.2.2) →
    MinIs w (.slice (some ⟨g, 0, none⟩) 2 2) M := by
  intro g w hg c0 c1 c2 c3 c4 c5
  refine ⟨[x, y], ⟨⟨_, 2, rfl, fun _ => ⟨g, 0, rfl, hg, fun i hi => ?_⟩⟩, fun d hd => ?_⟩, by simp, hM.symm⟩
  · match i, hi with
    | 0, _ => exact ⟨c0, c1, c2⟩
    | 1, _ => exact ⟨c3, c4, c5⟩
  · simp at hd
    rcases hd with rfl | rfl
    · exact hx
    · exact hy

set_option maxHeartbeats 2000000 in
set_option maxRecDepth 100000 in
theorem mins_walk (v u : Value) (ds es : List D3) (w : World) (hds : IsDists w v ds) (hes : IsDists w u es) (htab : Tab w) :
    Calls Tryd.prog 7 #[v, u] w fun e w' => e = .returned (.bool true) ∧ Below w.heap.size w w' := by
  have hds0 := hds
  have hes0 := hes
  obtain ⟨⟨a, cap, rfl, hf⟩, hword⟩ := hds
  obtain ⟨⟨b, cap', rfl, hf'⟩, hword'⟩ := hes
  obtain ⟨n, hn⟩ : ∃ n, n = ds.length := ⟨_, rfl⟩
  obtain ⟨m, hm⟩ : ∃ m, m = es.length := ⟨_, rfl⟩
  rw [← hn] at hf hds0 ⊢
  rw [← hm] at hf' hes0 ⊢
  have HN := Lib.hid hn
  have HM := Lib.hid hm
  clear hn hm
  by_cases e1 : n = 0
  · have g1 : ((n : Int) == 0) = true := beq_iff_eq.2 (by omega)
    clear hf hf' hds0 hes0
    go_enter Tryd.func7, Tryd.ntmps7
    go_wp2_with fail
    refine (awake2_any _ (htab.below (by (repeat' (first | (with_reducible exact Below.refl _ _) | (with_reducible assumption) | (with_reducible refine Below.alloc ?_ ?_ _) | (with_reducible refine Below.drew ?_) | (with_reducible refine drewN_below ?_ _) | (with_reducible refine Below.setCell ?_ ?_ _) | (with_reducible refine below_call (by with_reducible assumption) ?_ ?_) | (first | (with_reducible exact Nat.le_refl _) | (with_reducible assumption) | omega | (simp; done) | (simp; omega))))))).mono ?_; rintro e w' ⟨rfl, hB⟩; obtain ⟨hc, hf⟩ := keep hB; have hz := hB.size; try simp at hz
    go_wp2
    go_ret
    exact ⟨rfl, by (repeat' (first | (with_reducible exact Below.refl _ _) | (with_reducible assumption) | (with_reducible refine Below.alloc ?_ ?_ _) | (with_reducible refine Below.drew ?_) | (with_reducible refine drewN_below ?_ _) | (with_reducible refine Below.setCell ?_ ?_ _) | (with_reducible refine below_call (by with_reducible assumption) ?_ ?_) | (first | (with_reducible exact Nat.le_refl _) | (with_reducible assumption) | omega | (simp; done) | (simp; omega))))⟩
  have g1 : ((n : Int) == 0) = false := beq_eq_false_iff_ne.2 (by omega)
  by_cases e2 : m = 0
  · have g2 : ((m : Int) == 0) = true := beq_iff_eq.2 (by omega)
    clear hf hf' hds0 hes0
    go_enter Tryd.func7, Tryd.ntmps7
    go_wp2_with fail
    refine (awake2_any _ (htab.below (by (repeat' (first | (with_reducible exact Below.refl _ _) | (with_reducible assumption) | (with_reducible refine Below.alloc ?_ ?_ _) | (with_reducible refine Below.drew ?_) | (with_reducible refine drewN_below ?_ _) | (with_reducible refine Below.setCell ?_ ?_ _) | (with_reducible refine below_call (by with_reducible assumption) ?_ ?_) | (first | (with_reducible exact Nat.le_refl _) | (with_reducible assumption) | omega | (simp; done) | (simp; omega))))))).mono ?_; rintro e w' ⟨rfl, hB⟩; obtain ⟨hc, hf⟩ := keep hB; have hz := hB.size; try simp at hz
    go_wp2
    go_ret
    exact ⟨rfl, by (repeat' (first | (with_reducible exact Below.refl _ _) | (with_reducible assumption) | (with_reducible refine Below.alloc ?_ ?_ _) | (with_reducible refine Below.drew ?_) | (with_reducible refine drewN_below ?_ _) | (with_reducible refine Below.setCell ?_ ?_ _) | (with_reducible refine below_call (by with_reducible assumption) ?_ ?_) | (first | (with_reducible exact Nat.le_refl _) | (with_reducible assumption) | omega | (simp; done) | (simp; omega))))⟩
  have g2 : ((m : Int) == 0) = false := beq_eq_false_iff_ne.2 (by omega)
  by_cases e3 : 60 < n
  · have g3 : decide ((60 : Int) < (n : Int)) = true := decide_eq_true (by omega)
    clear hf hf' hds0 hes0
    go_enter Tryd.func7, Tryd.ntmps7
    go_wp2_with fail
    refine (awake2_any _ (htab.below (by (repeat' (first | (with_reducible exact Below.refl _ _) | (with_reducible assumption) | (with_reducible refine Below.alloc ?_ ?_ _) | (with_reducible refine Below.drew ?_) | (with_reducible refine drewN_below ?_ _) | (with_reducible refine Below.setCell ?_ ?_ _) | (with_reducible refine below_call (by with_reducible assumption) ?_ ?_) | (first | (with_reducible exact Nat.le_refl _) | (with_reducible assumption) | omega | (simp; done) | (simp; omega))))))).mono ?_; rintro e w' ⟨rfl, hB⟩; obtain ⟨hc, hf⟩ := keep hB; have hz := hB.size; try simp at hz
    go_wp2
    go_ret
    exact ⟨rfl, by (repeat' (first | (with_reducible exact Below.refl _ _) | (with_reducible assumption) | (with_reducible refine Below.alloc ?_ ?_ _) | (with_reducible refine Below.drew ?_) | (with_reducible refine drewN_below ?_ _) | (with_reducible refine Below.setCell ?_ ?_ _) | (with_reducible refine below_call (by with_reducible assumption) ?_ ?_) | (first | (with_reducible exact Nat.le_refl _) | (with_reducible assumption) | omega | (simp; done) | (simp; omega))))⟩
  have g3 : decide ((60 : Int) < (n : Int)) = false := decide_eq_false (by omega)
  by_cases e4 : 60 < m
  · have g4 : decide ((60 : Int) < (m : Int)) = true := decide_eq_true (by omega)
    clear hf hf' hds0 hes0
    go_enter Tryd.func7, Tryd.ntmps7
    go_wp2_with fail
    refine (awake2_any _ (htab.below (by (repeat' (first | (with_reducible exact Below.refl _ _) | (with_reducible assumption) | (with_reducible refine Below.alloc ?_ ?_ _) | (with_reducible refine Below.drew ?_) | (with_reducible refine drewN_below ?_ _) | (with_reducible refine Below.setCell ?_ ?_ _) | (with_reducible refine below_call (by with_reducible assumption) ?_ ?_) | (first | (with_reducible exact Nat.le_refl _) | (with_reducible assumption) | omega | (simp; done) | (simp; omega))))))).mono ?_; rintro e w' ⟨rfl, hB⟩; obtain ⟨hc, hf⟩ := keep hB; have hz := hB.size; try simp at hz
    go_wp2
    go_ret
    exact ⟨rfl, by (repeat' (first | (with_reducible exact Below.refl _ _) | (with_reducible assumption) | (with_reducible refine Below.alloc ?_ ?_ _) | (with_reducible refine Below.drew ?_) | (with_reducible refine drewN_below ?_ _) | (with_reducible refine Below.setCell ?_ ?_ _) | (with_reducible refine below_call (by with_reducible assumption) ?_ ?_) | (first | (with_reducible exact Nat.le_refl _) | (with_reducible assumption) | omega | (simp; done) | (simp; omega))))⟩
  have g4 : decide ((60 : Int) < (m : Int)) = false := decide_eq_false (by omega)
  have hl1 : ds.length ≤ 60 := by have := HN.out; omega
  have hl2 : es.length ≤ 60 := by have := HM.out; omega
  have hp1 : 0 < ds.length := by have := HN.out; omega
  have hp2 : 0 < es.length := by have := HM.out; omega
  have HD := Lib.hid hds0
  have HE := Lib.hid hes0
  have HL := Lib.hid (And.intro hl1 (And.intro hl2 (And.intro hp1 hp2)))
  clear hds0 hes0 hf hf'
  go_enter Tryd.func7, Tryd.ntmps7
  go_wp2_with (at_builtin; refine wpList_append_run _ (JoinedD w.heap.size _ ([] ++ ds)) rfl _ _ 47 rfl _ _ rfl rfl (run_append_dists _ _ w.heap.size _ _ [] ds (World.ownsRow_made w #[] 0 (Nat.le_refl _) (by decide) rfl) (HD.out.keep (by (repeat' (first | (with_reducible exact Below.refl _ _) | (with_reducible assumption) | (with_reducible refine Below.alloc ?_ ?_ _) | (with_reducible refine Below.drew ?_) | (with_reducible refine drewN_below ?_ _) | (with_reducible refine Below.setCell ?_ ?_ _) | (with_reducible refine below_call (by with_reducible assumption) ?_ ?_) | (first | (with_reducible exact Nat.le_refl _) | (with_reducible assumption) | omega | (simp; done) | (simp; omega)))))) HL.out.2.2.1 (by have := HL.out; simp; omega) (by first | omega | (simp; done) | (simp; omega))) ?_; rintro v1 w1 ⟨hown1, hB1⟩; refine Hid.out ?_)
  refine Lib.hid ?_
  have hB1' : Below w.heap.size w w1 := (Below.alloc (Below.refl _ _) (Nat.le_refl _) _).trans hB1
  have hz1 := hB1'.size
  have HO := Lib.hid hown1
  clear hown1 hB1
  go_wp2_with (at_builtin; refine wpList_append_run _ (JoinedD w.heap.size _ (([] ++ ds) ++ es)) rfl _ _ 47 rfl _ _ rfl rfl (run_append_dists _ _ w.heap.size _ _ ([] ++ ds) es HO.out (HE.out.keep hB1') HL.out.2.2.2 (by have := HL.out; simp; omega) hz1) ?_; rintro v2 w2 ⟨hown2, hB2⟩; refine Hid.out ?_)
  refine Lib.hid ?_
  have hB2' : Below w.heap.size w w2 := hB1'.trans hB2
  have hz2 := hB2'.size
  rw [List.nil_append] at hown2
  have hwl : ∀ d ∈ ds ++ es, WordD d := by
    intro d hd
    rcases List.mem_append.1 hd with h | h
    · exact hword d h
    · exact hword' d h
  have hI := isDists_own hown2 hwl
  have hlen : (ds ++ es).length ≤ 120 ∧ 0 < (ds ++ es).length := by have := HL.out; rw [List.length_append]; omega
  have hM := minL_append (l := ds) (r := es) (by intro e; rw [e] at hp1; simp at hp1) (by intro e; rw [e] at hp2; simp at hp2) hword hword'
  have hmw := minL_word hwl
  have hmA := minL_word hword
  have hmB := minL_word hword'
  have HNot := Lib.hid (fun (d : D3) (hd : d ∈ ds ++ es) => minL_not hwl hd)
  clear hword hword' hown2 hB2 hB1' HO
  generalize hA : ds ++ es = xs at *
  have HI := Lib.hid hI
  obtain ⟨⟨c, cap2, rfl, hf⟩, _⟩ := hI
  obtain ⟨c2, off2, rfl, hcl, hcc⟩ := hf hlen.2
  obtain ⟨k, hk⟩ : ∃ k, k = xs.length := ⟨_, rfl⟩
  try rw [← hk] at hlen
  rw [← hk] at HI ⊢
  have HK := Lib.hid hk
  clear hk hA hf hl1 hl2 hp1 hp2
  have hlx : xs.length ≤ 1000000000000 := by have := HK.out; omega
  have HX : MinIs w2 (.slice (some ⟨c2, off2, none⟩) k cap2) (minL xs) := ⟨xs, HI.out, hlx, rfl⟩
  have HA : MinIs w (.slice a n cap) (minL ds) := ⟨ds, HD.out, by have := HL.out; omega, rfl⟩
  have HB : MinIs w (.slice b m cap') (minL es) := ⟨es, HE.out, by have := HL.out; omega, rfl⟩
  have HP := minIs_pair hmA hmB hM
  clear hM
  generalize minL xs = M at *
  generalize minL ds = A at *
  generalize minL es = B at *
  obtain ⟨m0, m1, m2⟩ := M
  obtain ⟨a0, a1, a2⟩ := A
  obtain ⟨b0, b1, b2⟩ := B
  obtain ⟨v0, v1', v2⟩ := hmw
  have HW := Lib.hid hwl
  clear hwl hmA hmB
  go_wp2_with fail
  refine (minIs_any _ _ _ _ _ HX).mono ?_; rintro e w3 ⟨rfl, hB3⟩; obtain ⟨hc3, hf3⟩ := keep hB3; have hz3 := hB3.size; try simp at hz3
  go_wp2
  go_loopw [7] (fun t wr => ∃ i : Nat, i ≤ k ∧ t = .int .i64 i ∧ Blk wr w3.heap.size 24 #[.int .u64 m0, .int .u64 m1, .int .u64 m2] ∧ Below w3.heap.size w3 wr) (fun t _ => k - (intOf t).toNat)
  case atStart => exact ⟨0, Nat.zero_le _, rfl, Blk.new' _ _ (by first | rfl | simp), by (repeat' (first | (with_reducible exact Below.refl _ _) | (with_reducible assumption) | (with_reducible refine Below.alloc ?_ ?_ _) | (with_reducible refine Below.drew ?_) | (with_reducible refine drewN_below ?_ _) | (with_reducible refine Below.setCell ?_ ?_ _) | (with_reducible refine below_call (by with_reducible assumption) ?_ ?_) | (first | (with_reducible exact Nat.le_refl _) | (with_reducible assumption) | omega | (simp; done) | (simp; omega))))⟩
  case round =>
    obtain ⟨i, hi, rfl, hm, hB4⟩ := hrel
    have hzz := hB4.size
    have k0 := hm.cell 0
    have k1 := hm.cell 1
    have k2 := hm.cell 2
    simp at k0 k1 k2
    have HBlk := Lib.hid hm
    clear hm
    by_cases hlt : i < k
    · have hil : i < xs.length := by have := HK.out; omega
      obtain ⟨c0, c1, c2'⟩ := hcc i hil
      rw [← hB3.cell (p := ⟨c2, off2 + i * 3, none⟩) hcl, ← hB4.cell (p := ⟨c2, off2 + i * 3, none⟩) (by show c2 < _; omega)] at c0
      rw [← hB3.cell (p := ⟨c2, off2 + i * 3 + 1, none⟩) hcl, ← hB4.cell (p := ⟨c2, off2 + i * 3 + 1, none⟩) (by show c2 < _; omega)] at c1
      rw [← hB3.cell (p := ⟨c2, off2 + i * 3 + 2, none⟩) hcl, ← hB4.cell (p := ⟨c2, off2 + i * 3 + 2, none⟩) (by show c2 < _; omega)] at c2'
      have hdw := HW.out _ (getD_mem hil)
      have hnot := HNot.out _ (getD_mem hil)
      generalize xs.getD i d30 = D at *
      obtain ⟨d0, d1, d2⟩ := D
      obtain ⟨w0, w1', w2'⟩ := hdw
      have HC := fun w => rcmp_any d0 d1 d2 m0 m1 m2 w0 w1' w2' v0 v1' v2 w
      simp only [cmpT] at hnot
      generalize cmpD d0 d1 d2 m0 m1 m2 = K at *
      have hbz : c2 < wr.heap.size := by omega
      clear hcc HX HA HB HP hlx
      go_wp2_with fail
      (refine wp_region_text (by kernel_rfl) (by kernel_rfl) ?_; (repeat (first | (refine step_val (v := ?_) (by rfl) ?_ ?_; rotate_left; (· (intro z hz; obtain ⟨hc, hf⟩ := keep hz; go_simp; first | done | (with_reducible rfl))); (try simp only [Act.put, List.setIfInBounds_toArray, List.set_cons_zero, List.set_cons_succ])) | (refine step_skip (by rfl) ?_; (try simp only [Act.put, List.setIfInBounds_toArray, List.set_cons_zero, List.set_cons_succ])) | (refine step_call (v := ?_) (f := ?_) (args := ?_) (by rfl) ?_ ?_ ?_; rotate_left; rotate_left; rotate_left; (· (intro z hz; go_simp; first | done | (with_reducible rfl) | (constructor <;> with_reducible rfl))); (· (intro z hz; first | (go_at_call 17; refine (HC _).mono ?_; rintro e w' ⟨rfl, hB⟩; refine ⟨?_, hz.trans (hB.mono hz.size)⟩; with_reducible rfl))); (try simp only [Act.put, List.setIfInBounds_toArray, List.set_cons_zero, List.set_cons_succ])))); refine steps_end ?_; intro w' hB; obtain ⟨hc, hf⟩ := keep hB; have hz := hB.size; try simp at hz)
      go_wp2
      go_roundw
      case rel => exact ⟨i + 1, by omega, by go_num, blk_grow HBlk.out hB, by (repeat' (first | (with_reducible exact Below.refl _ _) | (with_reducible assumption) | (with_reducible refine Below.alloc ?_ ?_ _) | (with_reducible refine Below.drew ?_) | (with_reducible refine drewN_below ?_ _) | (with_reducible refine Below.setCell ?_ ?_ _) | (with_reducible refine below_call (by with_reducible assumption) ?_ ?_) | (first | (with_reducible exact Nat.le_refl _) | (with_reducible assumption) | omega | (simp; done) | (simp; omega))))⟩
      case measure => simp [intOf]; omega
    · clear hcc HX
      go_wp2_with fail
      (refine wp_region_loose 5 (by kernel_rfl) (by kernel_rfl) (by kernel_rfl) (v0 := ?_) (by rfl) (by rfl) ?_ ?_; rotate_left; (· (intro z hz; obtain ⟨hc, hf⟩ := keep hz; go_simp; first | done | (with_reducible rfl))); change StepsT _ _ _ _ [_, _, _, _] _; (try simp only [Act.put, List.setIfInBounds_toArray, List.set_cons_zero, List.set_cons_succ]); (repeat (first | (refine stepT_val (v := ?_) (by rfl) ?_ ?_; rotate_left; (· (intro z hz; obtain ⟨hc, hf⟩ := keep hz; go_simp; first | done | (with_reducible rfl))); (try simp only [Act.put, List.setIfInBounds_toArray, List.set_cons_zero, List.set_cons_succ])) | (refine stepT_skip (by rfl) ?_; (try simp only [Act.put, List.setIfInBounds_toArray, List.set_cons_zero, List.set_cons_succ])) | (refine stepT_call (v := ?_) (f := ?_) (args := ?_) (by rfl) ?_ ?_ ?_; rotate_left; rotate_left; rotate_left; (· (intro z hz; obtain ⟨hc, hf⟩ := keep hz; go_simp; first | done | (with_reducible rfl) | (constructor <;> with_reducible rfl))); (· (intro z hz; first | (go_at_call 21; refine (minIs_any _ _ _ _ _ (by first|exact HA.keep (by (repeat' (first | (with_reducible exact Below.refl _ _) | (with_reducible assumption) | (with_reducible refine Below.alloc ?_ ?_ _) | (with_reducible refine Below.drew ?_) | (with_reducible refine drewN_below ?_ _) | (with_reducible refine Below.setCell ?_ ?_ _) | (with_reducible refine below_call (by with_reducible assumption) ?_ ?_) | (first | (with_reducible exact Nat.le_refl _) | (with_reducible assumption) | omega | (simp; done) | (simp; omega)))))|exact HB.keep (by (repeat' (first | (with_reducible exact Below.refl _ _) | (with_reducible assumption) | (with_reducible refine Below.alloc ?_ ?_ _) | (with_reducible refine Below.drew ?_) | (with_reducible refine drewN_below ?_ _) | (with_reducible refine Below.setCell ?_ ?_ _) | (with_reducible refine below_call (by with_reducible assumption) ?_ ?_) | (first | (with_reducible exact Nat.le_refl _) | (with_reducible assumption) | omega | (simp; done) | (simp; omega)))))|exact minIs_none _)).mono ?_; rintro e w' ⟨rfl, hB⟩; refine ⟨?_, hz.trans (hB.mono hz.size)⟩; with_reducible rfl) | (go_at_call 14; refine (awake2_any _ (htab.below (by (repeat' (first | (with_reducible exact Below.refl _ _) | (with_reducible assumption) | (with_reducible refine Below.alloc ?_ ?_ _) | (with_reducible refine Below.drew ?_) | (with_reducible refine drewN_below ?_ _) | (with_reducible refine Below.setCell ?_ ?_ _) | (with_reducible refine below_call (by with_reducible assumption) ?_ ?_) | (first | (with_reducible exact Nat.le_refl _) | (with_reducible assumption) | omega | (simp; done) | (simp; omega))))))).mono ?_; rintro e w' ⟨rfl, hB⟩; refine ⟨?_, hz.trans (hB.mono hz.size)⟩; with_reducible rfl))); (try simp only [Act.put, List.setIfInBounds_toArray, List.set_cons_zero, List.set_cons_succ])))); refine stepT_end ?_; intro z0 hz0; obtain ⟨hc0, hf0⟩ := keep hz0; have hs0 := hz0.size; try simp at hs0); (refine loose_val (v := ?_) (z' := ?_) (by rfl) (by rfl) ?_ ?_ ?_; rotate_left; rotate_left; (· (go_simp; first | done | (with_reducible rfl) | (constructor <;> with_reducible rfl))); (· (intro x hx; (repeat' (first | (with_reducible exact Below.refl _ _) | (with_reducible assumption) | (with_reducible refine Below.alloc ?_ ?_ _) | (with_reducible refine Below.drew ?_) | (with_reducible refine drewN_below ?_ _) | (with_reducible refine Below.setCell ?_ ?_ _) | (with_reducible refine below_call (by with_reducible assumption) ?_ ?_) | (first | (with_reducible exact Nat.le_refl _) | (with_reducible assumption) | omega | (simp; done) | (simp; omega)))))); (try simp only [Act.put, List.setIfInBounds_toArray, List.set_cons_zero, List.set_cons_succ]); change Steps _ _ _ _ [_, _, _, _, _, _, _, _, _, _, _] _); ((repeat (first | (refine step_val (v := ?_) (by rfl) ?_ ?_; rotate_left; (· (intro z hz; obtain ⟨hc, hf⟩ := keep hz; go_simp; first | done | (with_reducible rfl))); (try simp only [Act.put, List.setIfInBounds_toArray, List.set_cons_zero, List.set_cons_succ])) | (refine step_skip (by rfl) ?_; (try simp only [Act.put, List.setIfInBounds_toArray, List.set_cons_zero, List.set_cons_succ])) | (refine step_call (v := ?_) (f := ?_) (args := ?_) (by rfl) ?_ ?_ ?_; rotate_left; rotate_left; rotate_left; (· (intro z hz; go_simp; first | done | (with_reducible rfl) | (constructor <;> with_reducible rfl))); (· (intro z hz; first | (go_at_call 21; refine (minIs_any _ _ _ _ _ (by first|exact HA.keep (by (repeat' (first | (with_reducible exact Below.refl _ _) | (with_reducible assumption) | (with_reducible refine Below.alloc ?_ ?_ _) | (with_reducible refine Below.drew ?_) | (with_reducible refine drewN_below ?_ _) | (with_reducible refine Below.setCell ?_ ?_ _) | (with_reducible refine below_call (by with_reducible assumption) ?_ ?_) | (first | (with_reducible exact Nat.le_refl _) | (with_reducible assumption) | omega | (simp; done) | (simp; omega)))))|exact HB.keep (by (repeat' (first | (with_reducible exact Below.refl _ _) | (with_reducible assumption) | (with_reducible refine Below.alloc ?_ ?_ _) | (with_reducible refine Below.drew ?_) | (with_reducible refine drewN_below ?_ _) | (with_reducible refine Below.setCell ?_ ?_ _) | (with_reducible refine below_call (by with_reducible assumption) ?_ ?_) | (first | (with_reducible exact Nat.le_refl _) | (with_reducible assumption) | omega | (simp; done) | (simp; omega)))))|exact minIs_none _)).mono ?_; rintro e w' ⟨rfl, hB⟩; refine ⟨?_, hz.trans (hB.mono hz.size)⟩; with_reducible rfl) | (go_at_call 21; obtain ⟨hc, hf⟩ := keep hz; have hzz := hz.size; try simp at hzz; refine (minIs_any _ _ _ _ _ (HP _ _ (by omega) (by go_simp) (by go_simp) (by go_simp) (by go_simp) (by go_simp) (by go_simp))).mono ?_; rintro e w' ⟨rfl, hB⟩; refine ⟨?_, hz.trans (hB.mono hz.size)⟩; with_reducible rfl) | (go_at_call 14; refine (awake2_any _ (htab.below (by (repeat' (first | (with_reducible exact Below.refl _ _) | (with_reducible assumption) | (with_reducible refine Below.alloc ?_ ?_ _) | (with_reducible refine Below.drew ?_) | (with_reducible refine drewN_below ?_ _) | (with_reducible refine Below.setCell ?_ ?_ _) | (with_reducible refine below_call (by with_reducible assumption) ?_ ?_) | (first | (with_reducible exact Nat.le_refl _) | (with_reducible assumption) | omega | (simp; done) | (simp; omega))))))).mono ?_; rintro e w' ⟨rfl, hB⟩; refine ⟨?_, hz.trans (hB.mono hz.size)⟩; with_reducible rfl))); (try simp only [Act.put, List.setIfInBounds_toArray, List.set_cons_zero, List.set_cons_succ])))); refine steps_end ?_; intro w' hB; obtain ⟨hc, hf⟩ := keep hB; have hz := hB.size; try simp at hz)
      go_wp2
      go_ret
      exact ⟨rfl, by (repeat' (first | (with_reducible exact Below.refl _ _) | (with_reducible assumption) | (with_reducible refine Below.alloc ?_ ?_ _) | (with_reducible refine Below.drew ?_) | (with_reducible refine drewN_below ?_ _) | (with_reducible refine Below.setCell ?_ ?_ _) | (with_reducible refine below_call (by with_reducible assumption) ?_ ?_) | (first | (with_reducible exact Nat.le_refl _) | (with_reducible assumption) | omega | (simp; done) | (simp; omega))))⟩

set_option maxRecDepth 100000 in
theorem mins_lifted (os : Os) (started : os.Started) (H : Type) (enc : TypeId × Value → H) :
    ReturnsInHanded {} Tryd.checked os 7 .any (fun w args => (Rows.ratioMinsSpec.pre enc Tryd.prog Tryd.f7 [] false w args ∧ laidMet Tryd.prog laidL w) ∧ sizedMet enc Tryd.prog Tryd.f7 (OpenSpec.ofChange Rows.ratioMinsSpec) false w args) (Rows.ratioMinsSpec.post enc Tryd.prog Tryd.f7 false true false false) := by
  refine returnsInHanded_of_change_and (C := Tryd.checked) (X := fun w _ => laidMet Tryd.prog laidL w) (fun _ _ _ hh h => laid_heap hh h) own started (by kernel_rfl) Tryd.func7
    (ChangeSpec.witness_at (enc := enc) (C := Tryd.checked) (os := os) (X := fun w _ => laidMet Tryd.prog laidL w) false (laidWorld os) #[.slice none 0 0, .slice none 0 0] 8 rfl (by kernel_rfl) (by kernel_rfl) (by kernel_rfl) (by kernel_rfl) (by kernel_rfl) (laidWorld_met os _)) ?_
  intro W base args ds gs before hval0 hW _ _ hL _
  have hval : ∀ (j : Nat) t v, Tryd.f7.params[j]? = some t → args[j]? = some v → Value.okWide Tryd.prog W .any base t v := hval0
  have hT := tab_of_laid hL
  have hW' := hW
  obtain ⟨p, q, hA0, hV, rfl, _, _⟩ := hW
  have hA : DataW.TrodAll enc Tryd.prog W 0 (fun _ => true) true Tryd.f7.params.toList args.toList ds p := hA0
  rw [Tryd.params7] at hA hval
  obtain ⟨v0, vs0, d0, ds0, p0, q0, hargs, rfl, rfl, h0, r0⟩ := trodAll_cons hA
  obtain ⟨v1, vs1, d1, ds1, p1, q1, rfl, rfl, rfl, h1, r1⟩ := trodAll_cons r0
  obtain ⟨rfl, rfl, rfl⟩ := trodAll_nil r1
  obtain rfl : args = #[v0, v1] := by cases args; simp_all
  obtain ⟨rfl, rfl⟩ := trodVars_none hV
  obtain ⟨x0a, wx0a⟩ := open_dists (hval 0 47 v0 rfl rfl) h0
  obtain ⟨x1a, wx1a⟩ := open_dists (hval 1 47 v1 rfl rfl) h1
  refine (mins_walk _ _ _ _ W wx0a wx1a hT).mono fun e W' ⟨he, hb⟩ => ?_
  subst he
  exact ⟨_, rfl, post_true laidOut (by kernel_rfl) rfl hW' hb (trodAll_mk1 (shut_bool Tryd.underlying4 _)) rfl rfl⟩

theorem mins_holds : Rows.RatioMinsSaid :=
  OpenClaim.holds_of_wide 7 Tryd.f7 rfl rfl rfl rfl rfl rfl rfl ⟨rfl, rfl, rfl, rfl, rfl⟩ rfl rfl rfl rfl rfl (by kernel_rfl) Tryd.func7 (by kernel_rfl)
    (of_decide_eq_true (by kernel_rfl)) (by unfold Func.isWrapper; rw [if_neg (of_decide_eq_false (by kernel_rfl))]; exact ⟨rfl, rfl⟩)
    (fun os started H enc _ => mins_lifted os started H enc)

theorem mins_card : Rows.RatioMinsCardSaid :=
  Claim7.holds_tied_plain_at .later [] [.data, .data, .data] true (true, "59809f3e1549d4f568f852ccf1b2e93c587261b9280541bfe02b80e992a06706") true
    mins_holds (fun _ h => by cases h) (by kernel_rfl) (fun _ h => by cases h) ratioMins_row_tie rfl ⟨rfl, rfl⟩ (by kernel_rfl) rfl
    (fun f fn hf hfn => by
      obtain rfl : f = 7 := Option.some.inj ((show Tryd.prog.funcNamed "pergola/pergolalaw2.RatioMins" = some 7 by kernel_rfl).symm.trans hf) |>.symm
      obtain rfl : fn = Tryd.f7 := (Option.some.inj (Tryd.func7.symm.trans hfn)).symm
      refine ⟨by kernel_rfl, fun j t ht => ?_⟩
      have hall : (Tryd.f7.params.toList.all fun t => !(Tryd.prog.wantsStandIn t)) = true := by kernel_rfl
      have := List.all_eq_true.1 hall t (by simpa using Array.mem_of_getElem? ht)
      exact (by simpa using this : Tryd.prog.wantsStandIn t = false))
    (by kernel_rfl)
#print axioms mins_card
end Go.Proofs.YthamagnlpndnoaaDoor
