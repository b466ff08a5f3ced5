/- RatioCompares: any two distances, some of them none, are compared, and written; of any the least one is told. For every input; no condition. -/
import Derived.Test.YthamagnlpndnoaaDoorL2Awake
import Derived.Test.YthamagnlpndnoaaDoorOpenNear
import Derived.Test.YthamagnlpndnoaaDoorMin
import Derived.Test.YthamagnlpndnoaaDoorRTextD
import Derived.Test.YthamagnlpndnoaaDoorTied
import Derived.Test.YthamagnlpndnoaaDoorTie
import Derived.Test.YthamagnlpndnoaaDoorCards
namespace Go.Proofs.YthamagnlpndnoaaDoor
open Go.ChangeShapes Go.WideShapes Go.ChangeAt Go.RowKit

set_option maxHeartbeats 8000000 in
set_option maxRecDepth 100000 in
theorem compares_walk (ah al ad bh bl bd : Int) (v : Value) (ds : List D3) (p q : Int) (h1 : Word ah) (h2 : Word al) (h3 : Word ad) (h4 : Word bh) (h5 : Word bl) (h6 : Word bd) (w : World) (hds : IsDists w v ds) (htab : Tab w) :
    Calls Tryd.prog 8 #[.agg #[.int .u64 ah, .int .u64 al, .int .u64 ad], .agg #[.int .u64 bh, .int .u64 bl, .int .u64 bd], v, .int .i64 p, .int .i64 q] w fun e w' => e = .returned (.bool true) ∧ Below w.heap.size w w' := by
  have hds0 := hds
  obtain ⟨⟨a, cap, rfl, hf⟩, hword⟩ := hds
  obtain ⟨n, hn⟩ : ∃ n, n = ds.length := ⟨_, rfl⟩
  rw [← hn] at hf hds0 ⊢
  have HN := Lib.hid hn
  clear hn
  by_cases hl : 100 < n
  · have hg : decide ((100 : Int) < (n : Int)) = true := decide_eq_true (by omega)
    clear hf hds0
    go_enter Tryd.func8, Tryd.ntmps8
    go_wp2_with fail
    refine (awake2_any _ (htab.below (by (repeat' (first | (with_reducible exact Below.refl _ _) | (with_reducible assumption) | (with_reducible refine Below.alloc ?_ ?_ _) | (with_reducible refine Below.drew ?_) | (with_reducible refine drewN_below ?_ _) | (with_reducible refine Below.setCell ?_ ?_ _) | (with_reducible refine below_call (by with_reducible assumption) ?_ ?_) | (first | (with_reducible exact Nat.le_refl _) | (with_reducible assumption) | omega | (simp; done) | (simp; omega))))))).mono ?_; rintro e w' ⟨rfl, hB⟩; obtain ⟨hc, hf⟩ := keep hB; have hz := hB.size; try simp at hz
    go_wp2
    go_ret
    exact ⟨rfl, by (repeat' (first | (with_reducible exact Below.refl _ _) | (with_reducible assumption) | (with_reducible refine Below.alloc ?_ ?_ _) | (with_reducible refine Below.drew ?_) | (with_reducible refine drewN_below ?_ _) | (with_reducible refine Below.setCell ?_ ?_ _) | (with_reducible refine below_call (by with_reducible assumption) ?_ ?_) | (first | (with_reducible exact Nat.le_refl _) | (with_reducible assumption) | omega | (simp; done) | (simp; omega))))⟩
  · have hg : decide ((100 : Int) < (n : Int)) = false := decide_eq_false (by omega)
    have HD := Lib.hid hds0
    clear hds0
    go_enter Tryd.func8, Tryd.ntmps8
    go_wp2
    go_loopw [12] (fun t wr => ∃ i : Nat, i ≤ n ∧ t = .int .i64 i ∧ Blk wr w.heap.size 24 #[.int .u64 ah, .int .u64 al, .int .u64 ad] ∧ Blk wr (w.heap.size + 1) 24 #[.int .u64 bh, .int .u64 bl, .int .u64 bd] ∧ Blk wr (w.heap.size + 2) 24 #[.int .u64 (minL (ds.take i)).1, .int .u64 (minL (ds.take i)).2.1, .int .u64 (minL (ds.take i)).2.2] ∧ Below w.heap.size w wr) (fun t _ => n - (intOf t).toNat)
    case atStart =>
      refine ⟨0, Nat.zero_le _, rfl, ?_, ?_, ?_, by (repeat' (first | (with_reducible exact Below.refl _ _) | (with_reducible assumption) | (with_reducible refine Below.alloc ?_ ?_ _) | (with_reducible refine Below.drew ?_) | (with_reducible refine drewN_below ?_ _) | (with_reducible refine Below.setCell ?_ ?_ _) | (with_reducible refine below_call (by with_reducible assumption) ?_ ?_) | (first | (with_reducible exact Nat.le_refl _) | (with_reducible assumption) | omega | (simp; done) | (simp; omega))))⟩
      · exact ((Blk.new' _ _ (by first | rfl | simp)).alloc _).alloc _
      · exact (Blk.new' _ _ (by first | rfl | simp)).alloc _
      · exact Blk.new' _ _ (by first | rfl | simp)
    case round =>
      obtain ⟨i, hi, rfl, ha, hb, hm, hB1⟩ := hrel
      have hzz := hB1.size
      by_cases hlt : i < n
      · have hil : i < ds.length := by have := HN.out; omega
        obtain ⟨bb, off, rfl, hbl, hc⟩ := hf (by omega)
        obtain ⟨c0, c1, c2⟩ := hc i hil
        rw [← hB1.cell (p := ⟨bb, off + i * 3, none⟩) hbl] at c0
        rw [← hB1.cell (p := ⟨bb, off + i * 3 + 1, none⟩) hbl] at c1
        rw [← hB1.cell (p := ⟨bb, off + i * 3 + 2, none⟩) hbl] at c2
        have hdw := hword _ (getD_mem hil)
        have hmw := minL_word (l := ds.take i) (fun d hd => hword d (mem_take' hd))
        have hst := minL_take ds i hil
        generalize hD : ds.getD i d30 = D at *
        generalize hM : minL (ds.take i) = M at *
        obtain ⟨d0, d1, d2⟩ := D
        obtain ⟨m0, m1, m2⟩ := M
        obtain ⟨w0, w1, w2⟩ := hdw
        obtain ⟨v0, v1, v2⟩ := hmw
        have HC := fun w => rcompareDist_any d0 d1 d2 m0 m1 m2 w0 w1 w2 v0 v1 v2 w
        have k0 := hm.cell 0
        have k1 := hm.cell 1
        have k2 := hm.cell 2
        have g0 := hm.frozen 0
        have g1 := hm.frozen 1
        have g2 := hm.frozen 2
        simp at k0 k1 k2
        simp only [minD, cmpT] at hst
        have hbz : bb < wr.heap.size := by omega
        have HA := Lib.hid ha
        have HB := Lib.hid hb
        have HM := Lib.hid hm
        clear ha hb hm hf hc hword hD hM w0 w1 w2 v0 v1 v2
        by_cases hi0 : i = 0
        · rw [if_pos hi0] at hst
          subst hi0
          rw [Nat.zero_mul, Nat.add_zero] at c0 c1 c2
          have HS := Lib.hid hst
          clear hst
          go_wp2
          (refine wp_region_text (by kernel_rfl) (by kernel_rfl) ?_; (repeat (first | (refine step_val (v := ?_) (by rfl) ?_ ?_; rotate_left; (· (intro z hz; obtain ⟨hc, hf⟩ := keep hz; go_simp; first | done | (with_reducible rfl))); (try simp only [Act.put, List.setIfInBounds_toArray, List.set_cons_zero, List.set_cons_succ])) | (refine step_skip (by rfl) ?_; (try simp only [Act.put, List.setIfInBounds_toArray, List.set_cons_zero, List.set_cons_succ])) | (refine step_call (v := ?_) (f := ?_) (args := ?_) (by rfl) ?_ ?_ ?_; rotate_left; rotate_left; rotate_left; (· (intro z hz; go_simp; first | done | (with_reducible rfl) | (constructor <;> with_reducible rfl))); (· (intro z hz; first | (go_at_call 22; refine (HC _).mono ?_; rintro e w' ⟨rfl, hB⟩; refine ⟨?_, hz.trans (hB.mono hz.size)⟩; with_reducible rfl))); (try simp only [Act.put, List.setIfInBounds_toArray, List.set_cons_zero, List.set_cons_succ])))); refine steps_end ?_; intro w' hB; obtain ⟨hc, hf⟩ := keep hB; have hz := hB.size; try simp at hz)
          go_wp2
          go_roundw
          case rel =>
            refine ⟨0 + 1, by omega, by go_num, ?_, ?_, ?_, by (repeat' (first | (with_reducible exact Below.refl _ _) | (with_reducible assumption) | (with_reducible refine Below.alloc ?_ ?_ _) | (with_reducible refine Below.drew ?_) | (with_reducible refine drewN_below ?_ _) | (with_reducible refine Below.setCell ?_ ?_ _) | (with_reducible refine below_call (by with_reducible assumption) ?_ ?_) | (first | (with_reducible exact Nat.le_refl _) | (with_reducible assumption) | omega | (simp; done) | (simp; omega))))⟩
            · exact (((blk_grow HA.out hB).set_far (by omega) 0 _).set_far (by omega) 1 _).set_far (by omega) 2 _
            · exact (((blk_grow HB.out hB).set_far (by omega) 0 _).set_far (by omega) 1 _).set_far (by omega) 2 _
            · rw [HS.out]
              exact (((blk_grow HM.out hB).set_ 0 _).set_ 1 _).set_ 2 _
          case measure => simp [intOf]; omega
        · rw [if_neg hi0] at hst
          have hib : ((i : Int) == 0) = false := beq_eq_false_iff_ne.2 (by omega)
          by_cases hk : cmpD d0 d1 d2 m0 m1 m2 < 0
          · have HS := Lib.hid (hst.trans (if_pos hk))
            clear hst
            generalize cmpD d0 d1 d2 m0 m1 m2 = K at *
            go_wp2_with fail
            (refine wp_region_text (by kernel_rfl) (by kernel_rfl) ?_; (repeat (first | (refine step_val (v := ?_) (by rfl) ?_ ?_; rotate_left; (· (intro z hz; obtain ⟨hc, hf⟩ := keep hz; go_simp; first | done | (with_reducible rfl))); (try simp only [Act.put, List.setIfInBounds_toArray, List.set_cons_zero, List.set_cons_succ])) | (refine step_skip (by rfl) ?_; (try simp only [Act.put, List.setIfInBounds_toArray, List.set_cons_zero, List.set_cons_succ])) | (refine step_call (v := ?_) (f := ?_) (args := ?_) (by rfl) ?_ ?_ ?_; rotate_left; rotate_left; rotate_left; (· (intro z hz; go_simp; first | done | (with_reducible rfl) | (constructor <;> with_reducible rfl))); (· (intro z hz; first | (go_at_call 22; refine (HC _).mono ?_; rintro e w' ⟨rfl, hB⟩; refine ⟨?_, hz.trans (hB.mono hz.size)⟩; with_reducible rfl))); (try simp only [Act.put, List.setIfInBounds_toArray, List.set_cons_zero, List.set_cons_succ])))); refine steps_end ?_; intro w' hB; obtain ⟨hc, hf⟩ := keep hB; have hz := hB.size; try simp at hz)
            go_wp2
            go_roundw
            case rel =>
              refine ⟨i + 1, by omega, by go_num, ?_, ?_, ?_, by (repeat' (first | (with_reducible exact Below.refl _ _) | (with_reducible assumption) | (with_reducible refine Below.alloc ?_ ?_ _) | (with_reducible refine Below.drew ?_) | (with_reducible refine drewN_below ?_ _) | (with_reducible refine Below.setCell ?_ ?_ _) | (with_reducible refine below_call (by with_reducible assumption) ?_ ?_) | (first | (with_reducible exact Nat.le_refl _) | (with_reducible assumption) | omega | (simp; done) | (simp; omega))))⟩
              · exact (((blk_grow HA.out hB).set_far (by omega) 0 _).set_far (by omega) 1 _).set_far (by omega) 2 _
              · exact (((blk_grow HB.out hB).set_far (by omega) 0 _).set_far (by omega) 1 _).set_far (by omega) 2 _
              · rw [HS.out]
                exact (((blk_grow HM.out hB).set_ 0 _).set_ 1 _).set_ 2 _
            case measure => simp [intOf]; omega
          · have HS := Lib.hid (hst.trans (if_neg hk))
            clear hst
            generalize cmpD d0 d1 d2 m0 m1 m2 = K at *
            go_wp2_with fail
            (refine wp_region_text (by kernel_rfl) (by kernel_rfl) ?_; (repeat (first | (refine step_val (v := ?_) (by rfl) ?_ ?_; rotate_left; (· (intro z hz; obtain ⟨hc, hf⟩ := keep hz; go_simp; first | done | (with_reducible rfl))); (try simp only [Act.put, List.setIfInBounds_toArray, List.set_cons_zero, List.set_cons_succ])) | (refine step_skip (by rfl) ?_; (try simp only [Act.put, List.setIfInBounds_toArray, List.set_cons_zero, List.set_cons_succ])) | (refine step_call (v := ?_) (f := ?_) (args := ?_) (by rfl) ?_ ?_ ?_; rotate_left; rotate_left; rotate_left; (· (intro z hz; go_simp; first | done | (with_reducible rfl) | (constructor <;> with_reducible rfl))); (· (intro z hz; first | (go_at_call 22; refine (HC _).mono ?_; rintro e w' ⟨rfl, hB⟩; refine ⟨?_, hz.trans (hB.mono hz.size)⟩; with_reducible rfl))); (try simp only [Act.put, List.setIfInBounds_toArray, List.set_cons_zero, List.set_cons_succ])))); refine steps_end ?_; intro w' hB; obtain ⟨hc, hf⟩ := keep hB; have hz := hB.size; try simp at hz)
            go_wp2
            go_roundw
            case rel =>
              refine ⟨i + 1, by omega, by go_num, ?_, ?_, ?_, by (repeat' (first | (with_reducible exact Below.refl _ _) | (with_reducible assumption) | (with_reducible refine Below.alloc ?_ ?_ _) | (with_reducible refine Below.drew ?_) | (with_reducible refine drewN_below ?_ _) | (with_reducible refine Below.setCell ?_ ?_ _) | (with_reducible refine below_call (by with_reducible assumption) ?_ ?_) | (first | (with_reducible exact Nat.le_refl _) | (with_reducible assumption) | omega | (simp; done) | (simp; omega))))⟩
              · exact blk_grow HA.out hB
              · exact blk_grow HB.out hB
              · rw [HS.out]
                exact blk_grow HM.out hB
            case measure => simp [intOf]; omega
      · have htk : ds.take i = ds := List.take_of_length_le (by have := HN.out; omega)
        rw [htk] at hm
        have k0 := hm.cell 0
        have k1 := hm.cell 1
        have k2 := hm.cell 2
        have ka0 := ha.cell 0
        have ka1 := ha.cell 1
        have ka2 := ha.cell 2
        have kb0 := hb.cell 0
        have kb1 := hb.cell 1
        have kb2 := hb.cell 2
        simp at k0 k1 k2 ka0 ka1 ka2 kb0 kb1 kb2
        have hm100 : ds.length ≤ 1000000000000 := by have := HN.out; omega
        clear hm ha hb htk hf hword
        have hlz := hm100
        go_wp2
        have HR := fun w => rcompareDist_any ah al ad bh bl bd h1 h2 h3 h4 h5 h6 w
        have HC := fun w => rcmp_any ah al ad bh bl bd h1 h2 h3 h4 h5 h6 w
        have HL := fun w => less_any p ah al ad q bh bl bd h1 h2 h3 h4 h5 h6 w
        have HS := fun w => rless_any p ah al ad q bh bl bd h1 h2 h3 h4 h5 h6 w
        have HT := fun w => rtextD_any ah al ad h1 h2 h3 w
        have HM := fun (w' : World) (h : Below w.heap.size w w') => min_any _ ds w' (HD.out.keep h) hm100
        generalize minL ds = M at *
        obtain ⟨m0, m1, m2⟩ := M
        generalize decide (orV [cmpD ah al ad bh bl bd, cmpV p q] < 0) = B at *
        generalize cmpD ah al ad bh bl bd = K at *
        (refine wp_region_text (by kernel_rfl) (by kernel_rfl) ?_; (repeat (first | (refine step_val (v := ?_) (by rfl) ?_ ?_; rotate_left; (· (intro z hz; obtain ⟨hc, hf⟩ := keep hz; go_simp; first | done | (with_reducible rfl))); (try simp only [Act.put, List.setIfInBounds_toArray, List.set_cons_zero, List.set_cons_succ])) | (refine step_skip (by rfl) ?_; (try simp only [Act.put, List.setIfInBounds_toArray, List.set_cons_zero, List.set_cons_succ])) | (refine step_call (v := ?_) (f := ?_) (args := ?_) (by rfl) ?_ ?_ ?_; rotate_left; rotate_left; rotate_left; (· (intro z hz; go_simp; first | done | (with_reducible rfl) | (constructor <;> with_reducible rfl))); (· (intro z hz; first | (go_at_call 17; refine (HC _).mono ?_; rintro e w' ⟨rfl, hB⟩; refine ⟨?_, hz.trans (hB.mono hz.size)⟩; with_reducible rfl) | (go_at_call 22; refine (HR _).mono ?_; rintro e w' ⟨rfl, hB⟩; refine ⟨?_, hz.trans (hB.mono hz.size)⟩; with_reducible rfl) | (go_at_call 18; refine (rtext_any _ _ _ h1 h2 h3 _ (htab.below (by (repeat' (first | (with_reducible exact Below.refl _ _) | (with_reducible assumption) | (with_reducible refine Below.alloc ?_ ?_ _) | (with_reducible refine Below.drew ?_) | (with_reducible refine drewN_below ?_ _) | (with_reducible refine Below.setCell ?_ ?_ _) | (with_reducible refine below_call (by with_reducible assumption) ?_ ?_) | (first | (with_reducible exact Nat.le_refl _) | (with_reducible assumption) | omega | (simp; done) | (simp; omega))))))).mono ?_; rintro e w' ⟨rfl, hB⟩; refine ⟨?_, hz.trans (hB.mono hz.size)⟩; with_reducible rfl) | (go_at_call 23; refine (HT _).mono ?_; rintro e w' ⟨rfl, hB⟩; refine ⟨?_, hz.trans (hB.mono hz.size)⟩; with_reducible rfl) | (go_at_call 21; refine (HM _ (by (repeat' (first | (with_reducible exact Below.refl _ _) | (with_reducible assumption) | (with_reducible refine Below.alloc ?_ ?_ _) | (with_reducible refine Below.drew ?_) | (with_reducible refine drewN_below ?_ _) | (with_reducible refine Below.setCell ?_ ?_ _) | (with_reducible refine below_call (by with_reducible assumption) ?_ ?_) | (first | (with_reducible exact Nat.le_refl _) | (with_reducible assumption) | omega | (simp; done) | (simp; omega)))))).mono ?_; rintro e w' ⟨rfl, hB⟩; refine ⟨?_, hz.trans (hB.mono hz.size)⟩; with_reducible rfl) | (go_at_call 20; refine (HL _).mono ?_; rintro e w' ⟨rfl, hB⟩; refine ⟨?_, hz.trans (hB.mono hz.size)⟩; with_reducible rfl) | (go_at_call 24; refine (HS _).mono ?_; rintro e w' ⟨rfl, hB⟩; refine ⟨?_, hz.trans (hB.mono hz.size)⟩; with_reducible rfl) | (go_at_call 16; refine (sound_any _ _ _ _).mono ?_; rintro e w' ⟨rfl, hB⟩; refine ⟨?_, hz.trans (hB.mono hz.size)⟩; with_reducible rfl) | (go_at_call 14; refine (awake2_any _ (htab.below (by (repeat' (first | (with_reducible exact Below.refl _ _) | (with_reducible assumption) | (with_reducible refine Below.alloc ?_ ?_ _) | (with_reducible refine Below.drew ?_) | (with_reducible refine drewN_below ?_ _) | (with_reducible refine Below.setCell ?_ ?_ _) | (with_reducible refine below_call (by with_reducible assumption) ?_ ?_) | (first | (with_reducible exact Nat.le_refl _) | (with_reducible assumption) | omega | (simp; done) | (simp; omega))))))).mono ?_; rintro e w' ⟨rfl, hB⟩; refine ⟨?_, hz.trans (hB.mono hz.size)⟩; with_reducible rfl))); (try simp only [Act.put, List.setIfInBounds_toArray, List.set_cons_zero, List.set_cons_succ])))); refine steps_end ?_; intro w' hB; obtain ⟨hc, hf⟩ := keep hB; have hz := hB.size; try simp at hz)
        go_wp2
        go_ret
        exact ⟨rfl, by (repeat' (first | (with_reducible exact Below.refl _ _) | (with_reducible assumption) | (with_reducible refine Below.alloc ?_ ?_ _) | (with_reducible refine Below.drew ?_) | (with_reducible refine drewN_below ?_ _) | (with_reducible refine Below.setCell ?_ ?_ _) | (with_reducible refine below_call (by with_reducible assumption) ?_ ?_) | (first | (with_reducible exact Nat.le_refl _) | (with_reducible assumption) | omega | (simp; done) | (simp; omega))))⟩

set_option maxRecDepth 100000 in
theorem compares_lifted (os : Os) (started : os.Started) (H : Type) (enc : TypeId × Value → H) :
    ReturnsInHanded {} Tryd.checked os 8 .any (fun w args => (Rows.ratioComparesSpec.pre enc Tryd.prog Tryd.f8 [] false w args ∧ laidMet Tryd.prog laidL w) ∧ sizedMet enc Tryd.prog Tryd.f8 (OpenSpec.ofChange Rows.ratioComparesSpec) false w args) (Rows.ratioComparesSpec.post enc Tryd.prog Tryd.f8 false true false false) := by
  refine returnsInHanded_of_change_and (C := Tryd.checked) (X := fun w _ => laidMet Tryd.prog laidL w) (fun _ _ _ hh h => laid_heap hh h) own started (by kernel_rfl) Tryd.func8
    (ChangeSpec.witness_at (enc := enc) (C := Tryd.checked) (os := os) (X := fun w _ => laidMet Tryd.prog laidL w) false (laidWorld os) #[.agg #[.int .u64 0, .int .u64 0, .int .u64 0], .agg #[.int .u64 0, .int .u64 0, .int .u64 0], .slice none 0 0, .int .i64 0, .int .i64 0] 8 rfl (by kernel_rfl) (by kernel_rfl) (by kernel_rfl) (by kernel_rfl) (by kernel_rfl) (laidWorld_met os _)) ?_
  intro W base args ds gs before hval0 hW _ _ hL _
  have hval : ∀ (j : Nat) t v, Tryd.f8.params[j]? = some t → args[j]? = some v → Value.okWide Tryd.prog W .any base t v := hval0
  have hT := tab_of_laid hL
  have hW' := hW
  obtain ⟨p, q, hA0, hV, rfl, _, _⟩ := hW
  have hA : DataW.TrodAll enc Tryd.prog W 0 (fun _ => true) true Tryd.f8.params.toList args.toList ds p := hA0
  rw [Tryd.params8] at hA hval
  obtain ⟨v0, vs0, d0, ds0, p0, q0, hargs, rfl, rfl, h0, r0⟩ := trodAll_cons hA
  obtain ⟨v1, vs1, d1, ds1, p1, q1, rfl, rfl, rfl, h1, r1⟩ := trodAll_cons r0
  obtain ⟨v2, vs2, d2, ds2, p2, q2, rfl, rfl, rfl, h2, r2⟩ := trodAll_cons r1
  obtain ⟨v3, vs3, d3, ds3, p3, q3, rfl, rfl, rfl, h3, r3⟩ := trodAll_cons r2
  obtain ⟨v4, vs4, d4, ds4, p4, q4, rfl, rfl, rfl, h4, r4⟩ := trodAll_cons r3
  obtain ⟨rfl, rfl, rfl⟩ := trodAll_nil r4
  obtain rfl : args = #[v0, v1, v2, v3, v4] := by cases args; simp_all
  obtain ⟨rfl, rfl⟩ := trodVars_none hV
  obtain ⟨x0a, x0b, x0c, rfl, wx0a, wx0b, wx0c⟩ := open_dist (hval 0 24 v0 rfl rfl) h0
  obtain ⟨x1a, x1b, x1c, rfl, wx1a, wx1b, wx1c⟩ := open_dist (hval 1 24 v1 rfl rfl) h1
  obtain ⟨x2a, wx2a⟩ := open_dists (hval 2 47 v2 rfl rfl) h2
  obtain ⟨x3a, rfl, rfl, rfl, wx3a⟩ := open_int Tryd.underlying3 (hval 3 3 v3 rfl rfl) h3
  obtain ⟨x4a, rfl, rfl, rfl, wx4a⟩ := open_int Tryd.underlying3 (hval 4 3 v4 rfl rfl) h4
  refine (compares_walk _ _ _ _ _ _ _ _ _ _ wx0a wx0b wx0c wx1a wx1b wx1c W wx2a hT).mono fun e W' ⟨he, hb⟩ => ?_
  subst he
  exact ⟨_, rfl, post_true laidOut (by kernel_rfl) rfl hW' hb (trodAll_mk1 (shut_bool Tryd.underlying4 _)) rfl rfl⟩

theorem compares_holds : Rows.RatioComparesSaid :=
  OpenClaim.holds_of_wide 8 Tryd.f8 rfl rfl rfl rfl rfl rfl rfl ⟨rfl, rfl, rfl, rfl, rfl⟩ rfl rfl rfl rfl rfl (by kernel_rfl) Tryd.func8 (by kernel_rfl)
    (of_decide_eq_true (by kernel_rfl)) (by unfold Func.isWrapper; rw [if_neg (of_decide_eq_false (by kernel_rfl))]; exact ⟨rfl, rfl⟩)
    (fun os started H enc _ => compares_lifted os started H enc)

theorem compares_card : Rows.RatioComparesCardSaid :=
  Claim7.holds_tied_plain_at .later [] [.data, .data, .data] true (true, "59809f3e1549d4f568f852ccf1b2e93c587261b9280541bfe02b80e992a06706") true
    compares_holds (fun _ h => by cases h) (by kernel_rfl) (fun _ h => by cases h) ratioCompares_row_tie rfl ⟨rfl, rfl⟩ (by kernel_rfl) rfl
    (fun f fn hf hfn => by
      obtain rfl : f = 8 := Option.some.inj ((show Tryd.prog.funcNamed "pergola/pergolalaw2.RatioCompares" = some 8 by kernel_rfl).symm.trans hf) |>.symm
      obtain rfl : fn = Tryd.f8 := (Option.some.inj (Tryd.func8.symm.trans hfn)).symm
      refine ⟨by kernel_rfl, fun j t ht => ?_⟩
      have hall : (Tryd.f8.params.toList.all fun t => !(Tryd.prog.wantsStandIn t)) = true := by kernel_rfl
      have := List.all_eq_true.1 hall t (by simpa using Array.mem_of_getElem? ht)
      exact (by simpa using this : Tryd.prog.wantsStandIn t = false))
    (by kernel_rfl)
#print axioms compares_card
end Go.Proofs.YthamagnlpndnoaaDoor
