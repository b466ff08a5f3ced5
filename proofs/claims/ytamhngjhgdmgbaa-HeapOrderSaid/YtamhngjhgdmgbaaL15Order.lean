/- HeapOrder: what was pushed is popped all, in order; entries stand in one order. For every list of entries; no condition. -/
import Derived.Test.YtamhngjhgdmgbaaHeapL
namespace Go.Proofs.Ytamhngjhgdmgbaa
open Go.ChangeShapes Go.WideShapes Go.ChangeAt Go.RowKit

set_option maxHeartbeats 4000000 in
theorem order_walk (v : Value) (es : List Ent) (w : World) (hes : IsEnts w v es) :
    Calls Try.prog 6 #[v] w fun e w' => e = .returned (.bool true) ∧ Below w.heap.size w w' := by
  have HE := Lib.hid hes
  obtain ⟨⟨a, cap, rfl, hf⟩, -⟩ := hes
  have HF := Lib.hid hf
  clear hf
  obtain ⟨n, hn⟩ : ∃ n, es.length = n := ⟨_, rfl⟩
  rw [hn]
  have HN := Lib.hid hn
  clear hn
  by_cases hlong : 150 < n
  · have h1 : (150 : Int) < (n : Int) := by omega
    go_enter Try.func6, Try.ntmps6
    go_wp2_with (go_at_call 8; refine (awake15_any _).mono ?_; rintro e w5 ⟨rfl, hB5⟩)
    go_ret
    exact ⟨rfl, by (repeat' (first | (with_reducible exact Below.refl _ _) | (with_reducible assumption) | (with_reducible refine Below.alloc ?_ ?_ _) | (with_reducible refine Below.drew ?_) | (with_reducible refine drewN_below ?_ _) | (with_reducible refine Below.setCell ?_ ?_ _) | (with_reducible refine below_call (by with_reducible assumption) ?_ ?_) | (first | (with_reducible exact Nat.le_refl _) | (with_reducible assumption) | omega | (simp; done) | (simp; omega))))⟩
  · have h1 : ¬ (150 : Int) < (n : Int) := by omega
    go_enter Try.func6, Try.ntmps6
    go_wp2_with (go_at_call 9; refine (newH_any _).mono ?_; rintro e w1 ⟨h, rfl, hH, hB, hh⟩)
    go_loopw [4] (fun s wr => ∃ (i : Nat) (vH : Value), s = .int .i64 i ∧ i ≤ n ∧ HeapOf wr w.heap.size h vH (pshL es i) i ∧ Below w.heap.size w wr) (fun s _ => n - (intOf s).toNat)
    case atStart => exact ⟨0, _, rfl, Nat.zero_le _, hH, hB⟩
    case round =>
      clear hH hB hh
      obtain ⟨i, vH, rfl, hi, HH, hB⟩ := hrel
      by_cases hlt : i < n
      · have hlt' : (i : Int) < (n : Int) := by omega
        obtain ⟨b, off, rfl, hbl, hcc⟩ := HF.out (by have := HN.out; omega)
        have ci := hcc i (by have := HN.out; omega)
        have wi := ents_word HE.out (i := i) (by have := HN.out; omega)
        have HCC := Lib.hid hcc
        clear hcc
        obtain ⟨X, hX⟩ : ∃ X, es.getD i e0 = X := ⟨_, rfl⟩
        rw [hX] at ci wi
        have HX := Lib.hid hX
        clear hX
        have c0 := (hB.cell (p := ⟨b, off + i * 6 + 0, none⟩) hbl).trans (ci 0 _ rfl)
        have c1 := (hB.cell (p := ⟨b, off + i * 6 + 1, none⟩) hbl).trans (ci 1 _ rfl)
        have c2 := (hB.cell (p := ⟨b, off + i * 6 + 2, none⟩) hbl).trans (ci 2 _ rfl)
        have c3 := (hB.cell (p := ⟨b, off + i * 6 + 3, none⟩) hbl).trans (ci 3 _ rfl)
        have c4 := (hB.cell (p := ⟨b, off + i * 6 + 4, none⟩) hbl).trans (ci 4 _ rfl)
        have c5 := (hB.cell (p := ⟨b, off + i * 6 + 5, none⟩) hbl).trans (ci 5 _ rfl)
        simp only [Nat.add_zero] at c0
        have CI := Lib.hid ci
        clear ci
        have HP := fun (z : World) (hz : Below wr.heap.size wr z) => pushH_any _ h vH _ _ X z (HH.grow hz) (by omega) (by rw [pshL_length]; omega) wi
        have hBs := hB.size
        have HW := Lib.hid wi
        have HB := Lib.hid hB
        clear wi HH hB
        go_wp2_with (first | (go_at_call 11; refine (made_any _ _ _ _ _ _ _).mono ?_; rintro e w2 ⟨rfl, hB2⟩; have hs2 := hB2.size) | (go_at_call 10; refine (HP _ (by (repeat' (first | (with_reducible exact Below.refl _ _) | (with_reducible assumption) | (with_reducible refine Below.alloc ?_ ?_ _) | (with_reducible refine Below.drew ?_) | (with_reducible refine drewN_below ?_ _) | (with_reducible refine Below.setCell ?_ ?_ _) | (with_reducible refine below_call (by with_reducible assumption) ?_ ?_) | (first | (with_reducible exact Nat.le_refl _) | (with_reducible assumption) | omega | (simp; done) | (simp; omega)))))).mono ?_; rintro e w3 ⟨rfl, v', hv', hk', -⟩))
        have B3 : Below w.heap.size w w3 := (HB.out.trans (hB2.mono hBs)).trans hk'.below
        have Hn : HeapOf w3 w.heap.size h v' (pshL es (i + 1)) ((i + 1 : Nat) : Int) := by
          have := hv'
          rw [← HX.out] at this
          exact this
        clear hv' hk' hB2 HP c0 c1 c2 c3 c4 c5
        go_loopw [5] (fun s wr2 => ∃ k : Nat, s = .int .i64 k ∧ k ≤ i ∧ HeapOf wr2 w.heap.size h v' (pshL es (i + 1)) ((i + 1 : Nat) : Int) ∧ Below w.heap.size w wr2) (fun s _ => i - (intOf s).toNat)
        case atStart => exact ⟨0, rfl, Nat.zero_le _, Hn, B3⟩
        case round =>
          clear B3 Hn
          obtain ⟨k, rfl, hk, HH2, hB4⟩ := hrel
          have HH3 := Lib.hid HH2
          clear HH2
          by_cases hki : k < i
          · have hki' : (k : Int) < (i : Int) := by omega
            have hkn' : (k : Int) < (n : Int) := by omega
            have dk := HCC.out k (by have := HN.out; omega)
            have ci := CI.out
            have wk := ents_word HE.out (i := k) (by have := HN.out; omega)
            obtain ⟨Y, hY⟩ : ∃ Y, es.getD k e0 = Y := ⟨_, rfl⟩
            rw [hY] at dk wk
            clear hY
            have c0 := (hB4.cell (p := ⟨b, off + i * 6 + 0, none⟩) hbl).trans (ci 0 _ rfl)
            have c1 := (hB4.cell (p := ⟨b, off + i * 6 + 1, none⟩) hbl).trans (ci 1 _ rfl)
            have c2 := (hB4.cell (p := ⟨b, off + i * 6 + 2, none⟩) hbl).trans (ci 2 _ rfl)
            have c3 := (hB4.cell (p := ⟨b, off + i * 6 + 3, none⟩) hbl).trans (ci 3 _ rfl)
            have c4 := (hB4.cell (p := ⟨b, off + i * 6 + 4, none⟩) hbl).trans (ci 4 _ rfl)
            have c5 := (hB4.cell (p := ⟨b, off + i * 6 + 5, none⟩) hbl).trans (ci 5 _ rfl)
            have d0 := (hB4.cell (p := ⟨b, off + k * 6 + 0, none⟩) hbl).trans (dk 0 _ rfl)
            have d1 := (hB4.cell (p := ⟨b, off + k * 6 + 1, none⟩) hbl).trans (dk 1 _ rfl)
            have d2 := (hB4.cell (p := ⟨b, off + k * 6 + 2, none⟩) hbl).trans (dk 2 _ rfl)
            have d3 := (hB4.cell (p := ⟨b, off + k * 6 + 3, none⟩) hbl).trans (dk 3 _ rfl)
            have d4 := (hB4.cell (p := ⟨b, off + k * 6 + 4, none⟩) hbl).trans (dk 4 _ rfl)
            have d5 := (hB4.cell (p := ⟨b, off + k * 6 + 5, none⟩) hbl).trans (dk 5 _ rfl)
            simp only [Nat.add_zero] at c0 d0
            have hbw : b < wr.heap.size := Nat.lt_of_lt_of_le hbl hB4.size
            have hBs4 := hB4.size
            have HB4 := Lib.hid hB4
            obtain ⟨b1, hb1⟩ : ∃ b1, decide (cmpEn X Y < 0) = b1 := ⟨_, rfl⟩
            have L1 : LessIs X Y b1 := ⟨hb1, HW.out, wk⟩
            clear dk ci hB4
            cases b1
            · clear hb1 wk
              go_wp2_with fail
              (refine wp_region_text (by kernel_rfl) (by kernel_rfl) ?_; (repeat (first | (refine step_val (v := ?_) (by rfl) ?_ ?_; rotate_left; (· (intro z hz; obtain ⟨hc, hf⟩ := keep hz; go_simp; first | done | (with_reducible rfl))); (try simp only [Act.put, List.setIfInBounds_toArray, List.set_cons_zero, List.set_cons_succ])) | (refine step_skip (by rfl) ?_; (try simp only [Act.put, List.setIfInBounds_toArray, List.set_cons_zero, List.set_cons_succ])) | (refine step_call (v := ?_) (f := ?_) (args := ?_) (by rfl) ?_ ?_ ?_; rotate_left; rotate_left; rotate_left; (· (intro z hz; go_simp; first | done | (with_reducible rfl) | (constructor <;> with_reducible rfl))); (· (intro z hz; first | (go_at_call 11; refine (made_any _ _ _ _ _ _ _).mono ?_; rintro e w' ⟨rfl, hB⟩; refine ⟨?_, hz.trans (hB.mono hz.size)⟩; with_reducible rfl) | (go_at_call 19; refine (lessIs_any X Y _ L1 _).mono ?_; rintro e w' ⟨rfl, hB⟩; refine ⟨?_, hz.trans (hB.mono hz.size)⟩; with_reducible rfl))); (try simp only [Act.put, List.setIfInBounds_toArray, List.set_cons_zero, List.set_cons_succ])))); refine steps_end ?_; intro w' hB; obtain ⟨hc, hf⟩ := keep hB; have hz := hB.size; try simp at hz)
              go_wp2_with fail
              go_roundw
              case rel => exact ⟨k + 1, by go_num, by omega, HH3.out.grow hB, HB4.out.trans (hB.mono hBs4)⟩
              case measure => simp [intOf]; omega
            · have L2 : LessIs Y X false := lessIs_not wk HW.out (by have := of_decide_eq_true hb1; omega)
              clear hb1 wk
              go_wp2_with fail
              (refine wp_region_text (by kernel_rfl) (by kernel_rfl) ?_; (repeat (first | (refine step_val (v := ?_) (by rfl) ?_ ?_; rotate_left; (· (intro z hz; obtain ⟨hc, hf⟩ := keep hz; go_simp; first | done | (with_reducible rfl))); (try simp only [Act.put, List.setIfInBounds_toArray, List.set_cons_zero, List.set_cons_succ])) | (refine step_skip (by rfl) ?_; (try simp only [Act.put, List.setIfInBounds_toArray, List.set_cons_zero, List.set_cons_succ])) | (refine step_call (v := ?_) (f := ?_) (args := ?_) (by rfl) ?_ ?_ ?_; rotate_left; rotate_left; rotate_left; (· (intro z hz; go_simp; first | done | (with_reducible rfl) | (constructor <;> with_reducible rfl))); (· (intro z hz; first | (go_at_call 11; refine (made_any _ _ _ _ _ _ _).mono ?_; rintro e w' ⟨rfl, hB⟩; refine ⟨?_, hz.trans (hB.mono hz.size)⟩; with_reducible rfl) | (go_at_call 19; refine (lessIs_any _ _ _ (by first|exact L1|exact L2) _).mono ?_; rintro e w' ⟨rfl, hB⟩; refine ⟨?_, hz.trans (hB.mono hz.size)⟩; with_reducible rfl))); (try simp only [Act.put, List.setIfInBounds_toArray, List.set_cons_zero, List.set_cons_succ])))); refine steps_end ?_; intro w' hB; obtain ⟨hc, hf⟩ := keep hB; have hz := hB.size; try simp at hz)
              go_wp2_with fail
              go_roundw
              case rel => exact ⟨k + 1, by go_num, by omega, HH3.out.grow hB, HB4.out.trans (hB.mono hBs4)⟩
              case measure => simp [intOf]; omega
          · have hkk : k = i := by omega
            subst hkk
            go_wp2_with fail
            go_roundw
            case rel => exact ⟨k + 1, v', by go_num, by omega, HH3.out, hB4⟩
            case measure => simp [intOf]; omega
      · have hin : i = n := by omega
        subst hin
        have hlt' : ¬ (i : Int) < (i : Int) := by omega
        have hhl := HH.lt
        have hLo : vH.ownBlock ≠ some wr.heap.size := fun e => by have := (HH.own_lt e).2; omega
        have HHw := Lib.hid (HH.grow (Below.alloc (Below.refl _ _) (Nat.le_refl _) (.cells #[.int .i64 0, .int .u64 0, .int .u64 0, .int .u64 0, .bool false, .int .i64 0] 40)))
        have HBw := Lib.hid (hB.trans ((Below.alloc (Below.refl wr.heap.size wr) (Nat.le_refl _) (.cells #[.int .i64 0, .int .u64 0, .int .u64 0, .int .u64 0, .bool false, .int .i64 0] 40)).mono hB.size))
        have hBlk : Blk (wr.alloc (.cells #[.int .i64 0, .int .u64 0, .int .u64 0, .int .u64 0, .bool false, .int .i64 0] 40)) wr.heap.size 40 #[.int .i64 0, .int .u64 0, .int .u64 0, .int .u64 0, .bool false, .int .i64 0] := Blk.new _ _ _
        have hBs := hB.size
        have hBh := HH.base
        clear HH hB
        go_wp2_with fail
        obtain ⟨W, hW⟩ : ∃ W, W = wr.alloc (.cells #[.int .i64 0, .int .u64 0, .int .u64 0, .int .u64 0, .bool false, .int .i64 0] 40) := ⟨_, rfl⟩
        obtain ⟨L, hL⟩ : ∃ L, L = wr.heap.size := ⟨_, rfl⟩
        rw [← hW, ← hL]
        rw [← hW] at HHw HBw hBlk
        rw [← hL] at hLo hhl hBlk hBs
        have hLh : L ≠ h := by omega
        clear hW hL hhl
        go_loopw [7] (fun s wr3 => ∃ (j : Nat) (l' : List Psh) (vH' : Value) (y : Ent), s = .int .i64 j ∧ j ≤ i ∧ l'.length = i - j ∧ HeapOf wr3 w.heap.size h vH' l' i ∧ Below w.heap.size w wr3 ∧ Blk wr3 L 40 #[.int .i64 y.id, .int .u64 y.hi, .int .u64 y.lo, .int .u64 y.den, .bool y.item, .int .i64 y.node] ∧ vH'.ownBlock ≠ some L ∧ (0 < j → WordE y ∧ ∀ q ∈ l', cmpEn y q.e ≤ 0)) (fun s _ => i - (intOf s).toNat)
        case atStart => exact ⟨0, _, vH, e0, rfl, Nat.zero_le _, by rw [pshL_length]; omega, HHw.out, HBw.out, hBlk, hLo, fun h => absurd h (Nat.lt_irrefl 0)⟩
        case round =>
          clear HHw HBw hBlk hLo
          obtain ⟨j, l', vH', y, rfl, hj, hlen, HH, hB, hblk, hLo, hy⟩ := hrel
          by_cases hji : j < i
          · have hji' : (j : Int) < (i : Int) := by omega
            have HP := popH_some _ h vH' l' _ wr HH (by omega) (by omega)
            have HWD := HH.word
            have HH1 := Lib.hid HH
            have HB1 := Lib.hid hB
            have hLw := hblk.lt
            have HK1 := Lib.hid hblk
            have HY := Lib.hid hy
            have HLO := Lib.hid hLo
            have HLEN := Lib.hid hlen
            have hBs1 := hB.size
            clear HH hB hblk hy hLo hlen
            go_upto_region 20 with (go_at_call 12; refine HP.mono ?_; rintro e w2 ⟨p, l2, v2, rfl, hp, hq, hv2, hk, ho⟩)
            obtain ⟨W2, hW2⟩ : ∃ W2, W2 = w2.alloc (.cells #[.int .i64 p.e.id, .int .u64 p.e.hi, .int .u64 p.e.lo, .int .u64 p.e.den, .bool p.e.item, .int .i64 p.e.node] 40) := ⟨_, rfl⟩
            obtain ⟨F, hF⟩ : ∃ F, F = w2.heap.size := ⟨_, rfl⟩
            have bF : Blk W2 F 40 #[.int .i64 p.e.id, .int .u64 p.e.hi, .int .u64 p.e.lo, .int .u64 p.e.den, .bool p.e.item, .int .i64 p.e.node] := by rw [hW2]; exact Blk.new' _ _ hF
            have bL : Blk W2 L 40 #[.int .i64 y.id, .int .u64 y.hi, .int .u64 y.lo, .int .u64 y.den, .bool y.item, .int .i64 y.node] := by rw [hW2]; exact (hk.blk HK1.out hLh HLO.out).alloc _
            have hws := hk.below.size
            have HH2 : HeapOf W2 w.heap.size h v2 l2 i := by rw [hW2]; exact hv2.grow (Below.alloc (Below.refl _ _) (Nat.le_refl _) _)
            have hB2 : Below w.heap.size w W2 := by rw [hW2]; exact (HB1.out.trans hk.below).alloc (by omega) _
            have hLo2 : v2.ownBlock ≠ some L := fun e => by
              rcases ho L e with h1 | h1
              · exact HLO.out h1
              · omega
            rw [← hW2, ← hF]
            have hwp : WordE p.e := HWD p hp.1
            have hmin : ∀ q ∈ l2, cmpEn p.e q.e ≤ 0 := fun q hq2 => leP_cmp (hp.2 q (hq.mem_iff.1 (List.mem_cons_of_mem _ hq2)))
            have hlen2 : l2.length = i - (j + 1) := by
              have := hq.length_eq
              have := HLEN.out
              simp at *
              omega
            have hcp : 0 < j → WordE y ∧ cmpEn y p.e ≤ 0 := fun h0 => ⟨(HY.out h0).1, (HY.out h0).2 p hp.1⟩
            generalize p.e = x at *
            have HX := Lib.hid hwp
            have HM := Lib.hid hmin
            have HL2 := Lib.hid hlen2
            have HC := Lib.hid hcp
            have HH3 := Lib.hid HH2
            have HB3 := Lib.hid hB2
            have HLO2 := Lib.hid hLo2
            have HBF := Lib.hid bF
            have HBL := Lib.hid bL
            have hFw := bF.lt
            have hLw2 := bL.lt
            have f0 := bF.cell 0
            have g0 := bL.cell 0
            have q0 := bL.frozen 0
            have f1 := bF.cell 1
            have g1 := bL.cell 1
            have q1 := bL.frozen 1
            have f2 := bF.cell 2
            have g2 := bL.cell 2
            have q2 := bL.frozen 2
            have f3 := bF.cell 3
            have g3 := bL.cell 3
            have q3 := bL.frozen 3
            have f4 := bF.cell 4
            have g4 := bL.cell 4
            have q4 := bL.frozen 4
            have f5 := bF.cell 5
            have g5 := bL.cell 5
            have q5 := bL.frozen 5
            simp at f0 f1 f2 f3 f4 f5 g0 g1 g2 g3 g4 g5
            clear HP HWD hp hq hk ho hv2 hW2 hF hws HH2 hB2 hLo2 hwp hmin hlen2 hcp bF bL hLw
            by_cases hj0 : j = 0
            · subst hj0
              go_wp2_with fail
              go_roundw
              case rel => exact ⟨1, l2, v2, x, rfl, by omega, HL2.out, ((((((HH3.out.side hLh HLO2.out 0 _).side hLh HLO2.out 1 _).side hLh HLO2.out 2 _).side hLh HLO2.out 3 _).side hLh HLO2.out 4 _).side hLh HLO2.out 5 _), ((((((HB3.out.setCell (p := ⟨L, 0, none⟩) hBs _).setCell (p := ⟨L, 1, none⟩) hBs _).setCell (p := ⟨L, 2, none⟩) hBs _).setCell (p := ⟨L, 3, none⟩) hBs _).setCell (p := ⟨L, 4, none⟩) hBs _).setCell (p := ⟨L, 5, none⟩) hBs _), ((((((HBL.out.set_ 0 (.int .i64 x.id)).set_ 1 (.int .u64 x.hi)).set_ 2 (.int .u64 x.lo)).set_ 3 (.int .u64 x.den)).set_ 4 (.bool x.item)).set_ 5 (.int .i64 x.node)), HLO2.out, fun _ => ⟨HX.out, HM.out⟩⟩
              case measure => simp [intOf]; omega
            · have hj1 : (0 : Int) < (j : Int) := by omega
              have hj2 : 0 < j := by omega
              have hcp := HC.out (by omega)
              have L1 := lessIs_not HX.out hcp.1 hcp.2
              clear hcp
              go_upto_region 22 with (go_at_call 19; refine (lessIs_any _ _ _ L1 _).mono ?_; rintro e w4 ⟨rfl, hB5⟩)
              have bF := blk_grow HBF.out hB5
              have bL := blk_grow HBL.out hB5
              have HH2 := HH3.out.grow hB5
              have hsz := HB3.out.size
              have hB2 := HB3.out.trans (hB5.mono hsz)
              have HH3 := Lib.hid HH2
              have HB3 := Lib.hid hB2
              have HBF := Lib.hid bF
              have HBL := Lib.hid bL
              have f0 := bF.cell 0
              have g0 := bL.cell 0
              have q0 := bL.frozen 0
              have f1 := bF.cell 1
              have g1 := bL.cell 1
              have q1 := bL.frozen 1
              have f2 := bF.cell 2
              have g2 := bL.cell 2
              have q2 := bL.frozen 2
              have f3 := bF.cell 3
              have g3 := bL.cell 3
              have q3 := bL.frozen 3
              have f4 := bF.cell 4
              have g4 := bL.cell 4
              have q4 := bL.frozen 4
              have f5 := bF.cell 5
              have g5 := bL.cell 5
              have q5 := bL.frozen 5
              simp at f0 f1 f2 f3 f4 f5 g0 g1 g2 g3 g4 g5
              clear HH2 hB2 bF bL hB5 L1
              go_wp2_with fail
              go_roundw
              case rel => exact ⟨j + 1, l2, v2, x, by go_num, by omega, HL2.out, ((((((HH3.out.side hLh HLO2.out 0 _).side hLh HLO2.out 1 _).side hLh HLO2.out 2 _).side hLh HLO2.out 3 _).side hLh HLO2.out 4 _).side hLh HLO2.out 5 _), ((((((HB3.out.setCell (p := ⟨L, 0, none⟩) hBs _).setCell (p := ⟨L, 1, none⟩) hBs _).setCell (p := ⟨L, 2, none⟩) hBs _).setCell (p := ⟨L, 3, none⟩) hBs _).setCell (p := ⟨L, 4, none⟩) hBs _).setCell (p := ⟨L, 5, none⟩) hBs _), ((((((HBL.out.set_ 0 (.int .i64 x.id)).set_ 1 (.int .u64 x.hi)).set_ 2 (.int .u64 x.lo)).set_ 3 (.int .u64 x.den)).set_ 4 (.bool x.item)).set_ 5 (.int .i64 x.node)), HLO2.out, fun _ => ⟨HX.out, HM.out⟩⟩
              case measure => simp [intOf]; omega
          · have hji2 : j = i := by omega
            subst hji2
            have hji' : ¬ (j : Int) < (j : Int) := by omega
            have hnil : l' = [] := List.eq_nil_of_length_eq_zero (by omega)
            subst hnil
            have HP := fun (z : World) (hz : Below wr.heap.size wr z) => popH_none _ h vH' _ z (HH.grow hz)
            have HQ := fun (z : World) (hz : Below wr.heap.size wr z) => lenH_any _ h vH' _ _ z (HH.grow hz)
            simp only [List.length_nil] at HQ
            have hBs1 := hB.size
            have HB1 := Lib.hid hB
            clear HH hblk hy hLo hlen hB
            go_wp2_with (first | (go_at_call 8; refine (awake15_any _).mono ?_; rintro e w5 ⟨rfl, hB5⟩; have hs5 := hB5.size; try simp at hs5) | (go_at_call 17; refine (HQ _ (by (repeat' (first | (with_reducible exact Below.refl _ _) | (with_reducible assumption) | (with_reducible refine Below.alloc ?_ ?_ _) | (with_reducible refine Below.drew ?_) | (with_reducible refine drewN_below ?_ _) | (with_reducible refine Below.setCell ?_ ?_ _) | (with_reducible refine below_call (by with_reducible assumption) ?_ ?_) | (first | (with_reducible exact Nat.le_refl _) | (with_reducible assumption) | omega | (simp; done) | (simp; omega)))))).mono ?_; rintro e w5 ⟨rfl, rfl⟩) | (go_at_call 12; refine (HP _ (by (repeat' (first | (with_reducible exact Below.refl _ _) | (with_reducible assumption) | (with_reducible refine Below.alloc ?_ ?_ _) | (with_reducible refine Below.drew ?_) | (with_reducible refine drewN_below ?_ _) | (with_reducible refine Below.setCell ?_ ?_ _) | (with_reducible refine below_call (by with_reducible assumption) ?_ ?_) | (first | (with_reducible exact Nat.le_refl _) | (with_reducible assumption) | omega | (simp; done) | (simp; omega)))))).mono ?_; rintro e w5 ⟨rfl, hB6⟩; have hs6 := hB6.size; try simp at hs6))
            go_ret
            refine ⟨rfl, HB1.out.trans ?_⟩
            refine Below.mono (B := wr.heap.size) ?_ hBs1
            (repeat' (first | (with_reducible exact Below.refl _ _) | (with_reducible assumption) | (with_reducible refine Below.alloc ?_ ?_ _) | (with_reducible refine Below.drew ?_) | (with_reducible refine drewN_below ?_ _) | (with_reducible refine Below.setCell ?_ ?_ _) | (with_reducible refine below_call (by with_reducible assumption) ?_ ?_) | (first | (with_reducible exact Nat.le_refl _) | (with_reducible assumption) | omega | (simp; done) | (simp; omega))))
set_option maxRecDepth 100000 in
theorem order_lifted (os : Os) (started : os.Started) (H : Type) (enc : TypeId × Value → H) :
    ReturnsInHanded {} Try.checked os 6 .any (Rows.heapOrderSpec.pre6 enc Try.prog Try.f6 Rows.heapOrderRow.domain false) (Rows.heapOrderSpec.post enc Try.prog Try.f6 false true false false) := by
  refine returnsInHanded_of_change (C := Try.checked) own started (by kernel_rfl) Try.func6
    (ChangeSpec.witness6 (enc := enc) (C := Try.checked) false ⟨#[], #[.slice none 0 0], []⟩ 8 (by kernel_rfl) (by kernel_rfl) (by kernel_rfl) (by kernel_rfl)) ?_
  intro W base args ds gs before hval0 hW _ _
  have hval : ∀ (j : Nat) t v, Try.f6.params[j]? = some t → args[j]? = some v → Value.okWide Try.prog W .any base t v := hval0
  have hW' := hW
  obtain ⟨p, q, hA0, hV, rfl, _, _⟩ := hW
  have hA : DataW.TrodAll enc Try.prog W 0 (fun _ => true) true Try.f6.params.toList args.toList ds p := hA0
  rw [Try.params6] at hA hval
  obtain ⟨v0, vs0, d0, ds0, p0, q0, hargs, rfl, rfl, h0, r0⟩ := trodAll_cons hA
  obtain ⟨rfl, rfl, rfl⟩ := trodAll_nil r0
  obtain rfl : args = #[v0] := by cases args; simp_all
  obtain ⟨rfl, rfl⟩ := trodVars_none hV
  obtain ⟨x0a, wx0a⟩ := open_ents (hval 0 27 v0 rfl rfl) h0
  refine (order_walk _ _ W wx0a).mono fun e W' ⟨he, hb⟩ => ?_
  subst he
  exact ⟨_, rfl, post_true laidOut (by kernel_rfl) rfl hW' hb (trodAll_mk1 (shut_bool Try.underlying4 _)) rfl rfl⟩

theorem order_holds : Rows.HeapOrderSaid :=
  OpenClaim.holds_of_wide 6 Try.f6 rfl rfl rfl rfl rfl rfl rfl ⟨rfl, rfl, rfl, rfl, rfl⟩ rfl rfl rfl rfl rfl (by kernel_rfl) Try.func6 (by kernel_rfl)
    (of_decide_eq_true (by kernel_rfl)) (by unfold Func.isWrapper; rw [if_neg (of_decide_eq_false (by kernel_rfl))]; exact ⟨rfl, rfl⟩)
    (fun os started H enc _ => order_lifted os started H enc)
#print axioms order_holds
end Go.Proofs.Ytamhngjhgdmgbaa
