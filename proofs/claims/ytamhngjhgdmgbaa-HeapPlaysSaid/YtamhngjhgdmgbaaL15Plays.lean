/- HeapPlays: whatever is pushed and popped, what comes next is as the document says. For every list of steps; no condition. -/
import Derived.Test.YtamhngjhgdmgbaaHeapGA
import Derived.Deep.RegionLaw
import Derived.Deep.CutRange
namespace Go.Proofs.Ytamhngjhgdmgbaa
open Go.ChangeShapes Go.WideShapes Go.ChangeAt Go.RowKit

set_option maxHeartbeats 8000000 in
set_option maxRecDepth 100000 in
theorem plays_walk (v : Value) (ss : List Stp) (w : World) (hes : IsSteps w v ss) :
    Calls Try.prog 3 #[v] w fun e w' => e = .returned (.bool true) ∧ Below w.heap.size w w' := by
  have HE := Lib.hid hes
  obtain ⟨⟨a, cap, rfl, hf⟩, -⟩ := hes
  have HF := Lib.hid hf
  clear hf
  obtain ⟨n, hn⟩ : ∃ n, ss.length = n := ⟨_, rfl⟩
  rw [hn]
  have HN := Lib.hid hn
  clear hn
  by_cases hlong : 200 < n
  · have h1 : (200 : Int) < (n : Int) := by omega
    go_enter Try.func3, Try.ntmps3
    go_wp2_with (go_at_call 8; refine (awake15_any _).mono ?_; rintro e w5 ⟨rfl, hB5⟩)
    go_ret
    exact ⟨rfl, by (repeat' (first | (with_reducible exact Below.refl _ _) | (with_reducible assumption) | (with_reducible refine Below.alloc ?_ ?_ _) | (with_reducible refine Below.drew ?_) | (with_reducible refine drewN_below ?_ _) | (with_reducible refine Below.setCell ?_ ?_ _) | (with_reducible refine below_call (by with_reducible assumption) ?_ ?_) | (first | (with_reducible exact Nat.le_refl _) | (with_reducible assumption) | omega | (simp; done) | (simp; omega))))⟩
  · have h1 : ¬ (200 : Int) < (n : Int) := by omega
    go_enter Try.func3, Try.ntmps3
    go_upto_region 7 with (go_at_call 9; refine (newH_any _).mono ?_; rintro e w1 ⟨h, rfl, hH, hB, hh⟩)
    obtain ⟨W0, hW0⟩ : ∃ W0, W0 = w1.alloc (.cells #[Value.slice none 0 0] 29) := ⟨_, rfl⟩
    obtain ⟨m, hm⟩ : ∃ m, m = w1.heap.size := ⟨_, rfl⟩
    rw [← hW0, ← hm]
    have g0 : Below w1.heap.size w1 W0 := by rw [hW0]; exact Below.alloc (Below.refl _ _) (Nat.le_refl _) _
    have S0 : St w w.heap.size h m 0 W0 := by
      refine ⟨0, .slice none 0 0, [], .slice none 0 0, hH.grow g0, ⟨by rw [hW0]; exact Blk.new' _ _ hm, World.ownsRow_nil _ _ _ _, by simp [Value.ownBlock], by have := hB.size; omega, by simp⟩, ⟨by have := hH.lt; omega, by simp [Value.ownBlock], by simp [Value.ownBlock], by simp [Value.ownBlock]⟩, ⟨by omega, by omega⟩, by simp, List.Pairwise.nil, by simp, hB.trans (g0.mono hB.size)⟩
    clear hH hB hh hW0 hm g0
    go_wp2_with fail
    go_loopg [5] n (fun gk s wr => ∃ i : Nat, s = .int .i64 i ∧ i ≤ n ∧ n ≤ i + gk ∧ St w w.heap.size h m i wr)
    case atStart => exact ⟨0, rfl, Nat.zero_le _, by omega, S0⟩
    case round =>
      clear S0
      obtain ⟨i, rfl, hi, hgk, hS⟩ := hrel
      by_cases hlt : i < n
      · have hlt' : (i : Int) < (n : Int) := by omega
        obtain ⟨b, off, rfl, hbl, hcc⟩ := HF.out (by have := HN.out; omega)
        have ci := hcc i (by have := HN.out; omega)
        have wi : WordE (ss.getD i s0).e := HE.out.all _ (by rw [List.getD_eq_getElem?_getD, List.getElem?_eq_getElem (by have := HN.out; omega)]; exact List.getElem_mem _)
        obtain ⟨X, hX⟩ : ∃ X, ss.getD i s0 = X := ⟨_, rfl⟩
        rw [hX] at ci wi
        obtain ⟨kd, Xe⟩ := X
        obtain ⟨c, vH, l, vR, HH, RR, SS, hc, hl, hpw, hct, hB⟩ := hS
        have CI := Lib.hid ci
        have WI : Hid (WordE Xe) := Lib.hid wi
        have HHo := Lib.hid HH
        have RRo := Lib.hid RR
        have SSo := Lib.hid SS
        have HPW := Lib.hid hpw
        have HCT := Lib.hid hct
        have HB := Lib.hid hB
        have HG := Lib.hid hgk
        have HC := Lib.hid hc
        have HL := Lib.hid hl
        have hBs := hB.size
        have k0 : wr.cell? ⟨b, off + i * 7, none⟩ = some (.int .i64 kd) := (hB.cell (p := ⟨b, off + i * 7, none⟩) hbl).trans (ci 0 _ rfl)
        clear hcc hX ci wi HH RR SS hpw hct hB hgk hc hl
        go_upto_if 34 with fail
        go_cut [] from 23 to 104 (fun wx => St w w.heap.size h m (i + 1) wx)
        case first =>
          by_cases hkd : kd = 1
          · subst hkd
            have ci := CI.out
            have hB := HB.out
            have c1 := (hB.cell (p := ⟨b, off + i * 7 + 1, none⟩) hbl).trans (ci 1 _ rfl)
            have c2 := (hB.cell (p := ⟨b, off + i * 7 + 2, none⟩) hbl).trans (ci 2 _ rfl)
            have c3 := (hB.cell (p := ⟨b, off + i * 7 + 3, none⟩) hbl).trans (ci 3 _ rfl)
            have c4 := (hB.cell (p := ⟨b, off + i * 7 + 4, none⟩) hbl).trans (ci 4 _ rfl)
            have c5 := (hB.cell (p := ⟨b, off + i * 7 + 5, none⟩) hbl).trans (ci 5 _ rfl)
            have c6 := (hB.cell (p := ⟨b, off + i * 7 + 6, none⟩) hbl).trans (ci 6 _ rfl)
            have HP := fun (z : World) (hz : Below wr.heap.size wr z) => pushH_any _ h vH l c Xe z (HHo.out.grow hz) (by have := HC.out; omega) (by have := HL.out; omega) WI.out
            clear ci hB
            go_upto_region 12 with (first | (go_at_call 11; refine (made_any _ _ _ _ _ _ _).mono ?_; rintro e w2 ⟨rfl, hB2⟩; have hs2 := hB2.size) | (go_at_call 10; refine (HP _ (by (repeat' (first | (with_reducible exact Below.refl _ _) | (with_reducible assumption) | (with_reducible refine Below.alloc ?_ ?_ _) | (with_reducible refine Below.drew ?_) | (with_reducible refine drewN_below ?_ _) | (with_reducible refine Below.setCell ?_ ?_ _) | (with_reducible refine below_call (by with_reducible assumption) ?_ ?_) | (first | (with_reducible exact Nat.le_refl _) | (with_reducible assumption) | omega | (simp; done) | (simp; omega)))))).mono ?_; rintro e w3 ⟨rfl, vH', hv', hk', ho'⟩))
            have hBW : Below w.heap.size w w3 := (HB.out.trans (hB2.mono hBs)).trans hk'.below
            have R2 := RRo.out.grow hB2
            have R3 := SSo.out.keepR R2 hk'
            have S3 := SSo.out.stepR ho' R2
            have ci := CI.out
            clear c1 c2 c3 c4 c5 c6 k0 HP hB2 hk' ho' R2 hs2
            have c1 := (hBW.cell (p := ⟨b, off + i * 7 + 1, none⟩) hbl).trans (ci 1 _ rfl)
            have c2 := (hBW.cell (p := ⟨b, off + i * 7 + 2, none⟩) hbl).trans (ci 2 _ rfl)
            have c3 := (hBW.cell (p := ⟨b, off + i * 7 + 3, none⟩) hbl).trans (ci 3 _ rfl)
            have c4 := (hBW.cell (p := ⟨b, off + i * 7 + 4, none⟩) hbl).trans (ci 4 _ rfl)
            have c5 := (hBW.cell (p := ⟨b, off + i * 7 + 5, none⟩) hbl).trans (ci 5 _ rfl)
            have c6 := (hBW.cell (p := ⟨b, off + i * 7 + 6, none⟩) hbl).trans (ci 6 _ rfl)
            have m0 := R3.blk.cell 0
            have mf := R3.blk.frozen 0
            have hm3 := R3.blk.lt
            have hoL := fun g => R3.own_lt (g := g)
            have hoA := R3.apart
            have hws := hBW.size
            have hlen : (l.map (·.e)).length ≤ 200 := by have := HL.out; simp; omega
            simp at m0
            have H3 := Lib.hid hv'
            have R3o := Lib.hid R3
            have S3o := Lib.hid S3
            have hBWo := Lib.hid hBW
            have OW := Lib.hid R3.own
            have BW := Lib.hid R3.blk
            clear ci hv' R3 S3 hBW
            obtain ⟨i0, hi0, hz0, hz1, hz2⟩ := info_parts info_ent14
            go_region_law (first | (refine step_append_lies _ rfl (.tmp 47) (.tmp 53) _ rfl w.heap.size 36 i0 _ 6 48 Try.underlying27 hi0 hz0 hz1 hz2 rfl (by decide) vR (l.map (fun q : Psh => q.e)).length (entRow (l.map (fun q : Psh => q.e))) rfl ((OW.out.drew).alloc _) ⟨w3.heap.size, 0, none⟩ 1 1 (entCells Xe) rfl rfl (World.news_of_block (Blk.new' _ _ (by first | rfl | simp))) (by intro u hu; simp [entCells] at hu; rcases hu with rfl | rfl | rfl | rfl | rfl | rfl <;> rfl) (by decide) (by unfold maxLen; omega) (by omega) (by simp; omega) (w3.heap.size + 1) (by simp) ?_; intro g cap' w4 hown1 hgrow hat hlt1; have q0 := (hgrow.cell_far ⟨m, 0, none⟩ (by simp; omega) (fun e => hoA m e.symm rfl)).trans ((World.cell?_drewAlloc w3 _ ⟨m, 0, none⟩ (by simp; omega)).trans m0); have qf := (hgrow.frozen_far ⟨m, 0, none⟩ (by simp; omega) (fun e => hoA m e.symm rfl)).trans ((World.frozen?_drewAlloc w3 _ ⟨m, 0, none⟩ (by simp; omega)).trans mf)))
            all_goals (go_wp2_with fail)
            all_goals go_meet
            case' rel => skip
            all_goals
              simp only [List.length_map] at hown1
              obtain ⟨R4, k4, o4⟩ := ref_append R3o.out (n := l.length + 1) (by simp) ((Kept.of_below ((Below.alloc (Below.refl _ _) (Nat.le_refl _) _).drew) (by omega))) ((BW.out.alloc _).drewN 1) WI.out hown1 hgrow (by simpa using hat)
              have H4 := S3o.out.symm.keep H3.out k4
              have S4 := (S3o.out.symm.step o4 H3.out).symm
              refine ⟨c + 1, vH', l ++ [⟨Xe, c + 1⟩], _, H4, by rw [List.map_append]; exact R4, S4, by have := HC.out; omega, by have := HL.out; simp; omega, ?_, ?_, hBWo.out.trans k4.below⟩
              · refine List.pairwise_append.2 ⟨HPW.out, List.pairwise_singleton _ _, fun p hp q hq => ?_⟩
                simp at hq
                subst hq
                have := HCT.out p hp
                show p.c < c + 1
                omega
              · intro p hp
                rcases List.mem_append.1 hp with hp | hp
                · have := HCT.out p hp; omega
                · simp at hp; subst hp; exact Int.le_refl _
          · have hkd' : (kd == 1) = false := beq_eq_false_iff_ne.2 hkd
            have HP := popB_any _ h vH l c wr HHo.out HPW.out (by have := HL.out; omega)
            go_upto_region 14 with (go_at_call 12; refine HP.mono ?_; rintro e w3 ⟨x, bb, vH', rfl, hT, hv', hk', ho'⟩)
            obtain ⟨W3, hW3⟩ : ∃ W3, W3 = w3.alloc (.cells #[.int .i64 x.id, .int .u64 x.hi, .int .u64 x.lo, .int .u64 x.den, .bool x.item, .int .i64 x.node] 40) := ⟨_, rfl⟩
            obtain ⟨F, hF⟩ : ∃ F, F = w3.heap.size := ⟨_, rfl⟩
            rw [← hW3, ← hF]
            have gg3 : Below w3.heap.size w3 W3 := by rw [hW3]; exact Below.alloc (Below.refl _ _) (Nat.le_refl _) _
            have bF : Blk W3 F 40 #[.int .i64 x.id, .int .u64 x.hi, .int .u64 x.lo, .int .u64 x.den, .bool x.item, .int .i64 x.node] := by rw [hW3]; exact Blk.new' _ _ hF
            have R3 := (SSo.out.keepR RRo.out hk')
            have S3 := SSo.out.stepR ho' RRo.out
            have hBW : Below w.heap.size w W3 := (HB.out.trans hk'.below).trans (gg3.mono (by have := hk'.below.size; omega))
            have nF1 : F ≠ m := by have := R3.blk.lt; omega
            have nF2 : vR.ownBlock ≠ some F := fun e => by have := (R3.own_lt e).2; omega
            have R3w := R3.grow gg3
            have HR := rPopB_any _ m vR l x bb W3 R3w hT HHo.out.word HPW.out (by have := HL.out; omega)
            have H3 := Lib.hid (hv'.grow gg3)
            have S3o := Lib.hid S3
            have hBWo := Lib.hid hBW
            have R3o := Lib.hid R3w
            have bFo := Lib.hid bF
            have nF1o := Lib.hid nF1
            have nF2o := Lib.hid nF2
            clear HP hT hv' hk' ho' hW3 hF gg3 bF R3 S3 hBW nF1 nF2 R3w k0
            go_upto_region 15 with (go_at_call 13; refine HR.mono ?_; rintro e w4 ⟨rfl, vR', hr', hk', ho'⟩)
            obtain ⟨W5, hW5⟩ : ∃ W5, W5 = w4.alloc (.cells #[.int .i64 x.id, .int .u64 x.hi, .int .u64 x.lo, .int .u64 x.den, .bool x.item, .int .i64 x.node] 36) := ⟨_, rfl⟩
            obtain ⟨G, hG⟩ : ∃ G, G = w4.heap.size := ⟨_, rfl⟩
            rw [← hW5, ← hG]
            have gg5 : Below w4.heap.size w4 W5 := by rw [hW5]; exact Below.alloc (Below.refl _ _) (Nat.le_refl _) _
            have bG : Blk W5 G 36 #[.int .i64 x.id, .int .u64 x.hi, .int .u64 x.lo, .int .u64 x.den, .bool x.item, .int .i64 x.node] := by rw [hW5]; exact Blk.new' _ _ hG
            have bF := blk_grow (hk'.blk bFo.out nF1o.out nF2o.out) gg5
            have H5 := (S3o.out.symm.keep H3.out hk').grow gg5
            have S5 := (S3o.out.symm.step ho' H3.out).symm
            have hBW : Below w.heap.size w W5 := (hBWo.out.trans hk'.below).trans (gg5.mono (by have := hBWo.out.size; have := hk'.below.size; omega))
            have R5 := hr'.grow gg5
            have f0 := bF.cell 0
            have f1 := bF.cell 1
            have f2 := bF.cell 2
            have f3 := bF.cell 3
            have f4 := bF.cell 4
            have f5 := bF.cell 5
            simp at f0 f1 f2 f3 f4 f5
            have g0 := bG.cell 0
            have g1 := bG.cell 1
            have g2 := bG.cell 2
            have g3 := bG.cell 3
            have g4 := bG.cell 4
            have g5 := bG.cell 5
            simp at g0 g1 g2 g3 g4 g5
            have hF5 := bF.lt
            have hG5 := bG.lt
            have H5o := Lib.hid H5
            have S5o := Lib.hid S5
            have R5o := Lib.hid R5
            have hBW5 := Lib.hid hBW
            have bFo5 := Lib.hid bF
            have bGo5 := Lib.hid bG
            clear HR hr' hk' ho' hW5 hG gg5 bF bG H5 S5 R5 hBW
            go_wp2_with (go_at_call 14; refine (same_any x _).mono ?_; rintro e w6 ⟨rfl, hB6⟩)
            go_meet
            case rel =>
              refine ⟨c, vH', restL l, vR', H5o.out.grow hB6, R5o.out.grow hB6, S5o.out, by have := HC.out; omega, by have := HL.out; have := restL_length l; omega, HPW.out.sublist (restL_sub l), fun p hp => HCT.out p ((restL_sub l).subset hp), hBW5.out.trans (hB6.mono hBW5.out.size)⟩
        case rest =>
        clear HHo RRo SSo HPW HCT HB HC HL hBs k0 CI WI
        obtain ⟨c2, vH2, l2, vR2, HH, RR, SS, hc, hl, hpw, hct, hB⟩ := hcut
        obtain ⟨wz, hwz⟩ : ∃ z, z = wc := ⟨_, rfl⟩
        subst hwz
        have HP := topB_any _ h vH2 l2 c2 wz HH
        have HHo := Lib.hid HH
        have RRo := Lib.hid RR
        have SSo := Lib.hid SS
        have HPW := Lib.hid hpw
        have HCT := Lib.hid hct
        have HB := Lib.hid hB
        have HC := Lib.hid hc
        have HL := Lib.hid hl
        clear HH RR SS hpw hct hB hc hl
        go_upto_region 18 with (go_at_call 15; refine HP.mono ?_; rintro e w3 ⟨x, bb, rfl, hT, hB3⟩)
        obtain ⟨W3, hW3⟩ : ∃ W3, W3 = w3.alloc (.cells #[.int .i64 x.id, .int .u64 x.hi, .int .u64 x.lo, .int .u64 x.den, .bool x.item, .int .i64 x.node] 40) := ⟨_, rfl⟩
        obtain ⟨F, hF⟩ : ∃ F, F = w3.heap.size := ⟨_, rfl⟩
        rw [← hW3, ← hF]
        have gg3 : Below w3.heap.size w3 W3 := by rw [hW3]; exact Below.alloc (Below.refl _ _) (Nat.le_refl _) _
        have bF : Blk W3 F 40 #[.int .i64 x.id, .int .u64 x.hi, .int .u64 x.lo, .int .u64 x.den, .bool x.item, .int .i64 x.node] := by rw [hW3]; exact Blk.new' _ _ hF
        have B3 : Below wz.heap.size wz W3 := hB3.trans (gg3.mono hB3.size)
        have HR := rTopB_any _ m vR2 l2 x bb W3 (RRo.out.grow B3) hT HHo.out.word HPW.out (by have := HL.out; omega)
        have bFo := Lib.hid bF
        have B3o := Lib.hid B3
        clear HP hT hB3 hW3 hF gg3 bF B3
        go_upto_region 19 with (go_at_call 16; refine HR.mono ?_; rintro e w4 ⟨rfl, hB4⟩)
        obtain ⟨W5, hW5⟩ : ∃ W5, W5 = w4.alloc (.cells #[.int .i64 x.id, .int .u64 x.hi, .int .u64 x.lo, .int .u64 x.den, .bool x.item, .int .i64 x.node] 36) := ⟨_, rfl⟩
        obtain ⟨G, hG⟩ : ∃ G, G = w4.heap.size := ⟨_, rfl⟩
        rw [← hW5, ← hG]
        have gg5 : Below w4.heap.size w4 W5 := by rw [hW5]; exact Below.alloc (Below.refl _ _) (Nat.le_refl _) _
        have bG : Blk W5 G 36 #[.int .i64 x.id, .int .u64 x.hi, .int .u64 x.lo, .int .u64 x.den, .bool x.item, .int .i64 x.node] := by rw [hW5]; exact Blk.new' _ _ hG
        have bF := blk_grow (blk_grow bFo.out hB4) gg5
        have B5 : Below wz.heap.size wz W5 := (B3o.out.trans (hB4.mono B3o.out.size)).trans (gg5.mono (by have := B3o.out.size; have := hB4.size; omega))
        have R5 := RRo.out.grow B5
        have HQ := fun (z : World) (hz : Below W5.heap.size W5 z) => lenH_any _ h vH2 l2 c2 z ((HHo.out.grow B5).grow hz)
        obtain ⟨ar, cr, hvr⟩ := R5.form
        have hlr : (l2.map (·.e)).length = l2.length := by simp
        have m0 := R5.blk.cell 0
        rw [hvr, hlr] at m0
        simp at m0
        have hm5 := R5.blk.lt
        have f0 := bF.cell 0
        have f1 := bF.cell 1
        have f2 := bF.cell 2
        have f3 := bF.cell 3
        have f4 := bF.cell 4
        have f5 := bF.cell 5
        simp at f0 f1 f2 f3 f4 f5
        have g0 := bG.cell 0
        have g1 := bG.cell 1
        have g2 := bG.cell 2
        have g3 := bG.cell 3
        have g4 := bG.cell 4
        have g5 := bG.cell 5
        simp at g0 g1 g2 g3 g4 g5
        have hF5 := bF.lt
        have hG5 := bG.lt
        have B5o := Lib.hid B5
        have bFo5 := Lib.hid bF
        have bGo5 := Lib.hid bG
        clear HR hB4 hW5 hG gg5 bF bG B5 R5 hvr hlr
        (refine wp_region_text (by kernel_rfl) (by kernel_rfl) ?_; (repeat (first | (refine step_val (v := ?_) (by rfl) ?_ ?_; rotate_left; (· (intro z hz; obtain ⟨hc, hf⟩ := keep hz; go_simp; first | done | (with_reducible rfl))); (try simp only [Act.put, List.setIfInBounds_toArray, List.set_cons_zero, List.set_cons_succ])) | (refine step_skip (by rfl) ?_; (try simp only [Act.put, List.setIfInBounds_toArray, List.set_cons_zero, List.set_cons_succ])) | (refine step_call (v := ?_) (f := ?_) (args := ?_) (by rfl) ?_ ?_ ?_; rotate_left; rotate_left; rotate_left; (· (intro z hz; go_simp; first | done | (with_reducible rfl) | (constructor <;> with_reducible rfl))); (· (intro z hz; first | (go_at_call 14; refine (same_any x _).mono ?_; rintro e w' ⟨rfl, hB⟩; refine ⟨?_, hz.trans (hB.mono hz.size)⟩; with_reducible rfl) | (go_at_call 17; refine (HQ _ hz).mono ?_; rintro e w' ⟨rfl, rfl⟩; refine ⟨?_, hz⟩; with_reducible rfl))); (try simp only [Act.put, List.setIfInBounds_toArray, List.set_cons_zero, List.set_cons_succ])))); refine steps_end ?_; intro w' hB; obtain ⟨hc, hf⟩ := keep hB; have hz := hB.size; try simp at hz)
        go_wp2_with fail
        go_roundg (n - (i + 1))
        case measure => have := HG.out; omega
        case rel =>
          have B6 : Below wz.heap.size wz w' := B5o.out.trans (hB.mono B5o.out.size)
          exact ⟨i + 1, by go_num, by omega, by omega, c2, vH2, l2, vR2, HHo.out.grow B6, RRo.out.grow B6, SSo.out, HC.out, HL.out, HPW.out, HCT.out, HB.out.trans (B6.mono HB.out.size)⟩
      · have hin : i = n := by omega
        subst hin
        have hlt' : ¬ (i : Int) < (i : Int) := by omega
        obtain ⟨-, -, -, -, -, -, -, -, -, -, -, hB⟩ := hS
        have hBs := hB.size
        have HB := Lib.hid hB
        clear hB
        go_wp2_with (go_at_call 8; refine (awake15_any _).mono ?_; rintro e w5 ⟨rfl, hB5⟩; have hs5 := hB5.size; try simp at hs5)
        go_ret
        refine ⟨rfl, HB.out.trans (Below.mono (B := wr.heap.size) ?_ hBs)⟩
        (repeat' (first | (with_reducible exact Below.refl _ _) | (with_reducible assumption) | (with_reducible refine Below.alloc ?_ ?_ _) | (with_reducible refine Below.drew ?_) | (with_reducible refine drewN_below ?_ _) | (with_reducible refine Below.setCell ?_ ?_ _) | (with_reducible refine below_call (by with_reducible assumption) ?_ ?_) | (first | (with_reducible exact Nat.le_refl _) | (with_reducible assumption) | omega | (simp; done) | (simp; omega))))

set_option maxRecDepth 100000 in
theorem plays_lifted (os : Os) (started : os.Started) (H : Type) (enc : TypeId × Value → H) :
    ReturnsInHanded {} Try.checked os 3 .any (Rows.heapPlaysSpec.pre6 enc Try.prog Try.f3 Rows.heapPlaysRow.domain false) (Rows.heapPlaysSpec.post enc Try.prog Try.f3 false true false false) := by
  refine returnsInHanded_of_change (C := Try.checked) own started (by kernel_rfl) Try.func3
    (ChangeSpec.witness6 (enc := enc) (C := Try.checked) false ⟨#[], #[.slice none 0 0], []⟩ 8 (by kernel_rfl) (by kernel_rfl) (by kernel_rfl) (by kernel_rfl)) ?_
  intro W base args ds gs before hval0 hW _ _
  have hval : ∀ (j : Nat) t v, Try.f3.params[j]? = some t → args[j]? = some v → Value.okWide Try.prog W .any base t v := hval0
  have hW' := hW
  obtain ⟨p, q, hA0, hV, rfl, _, _⟩ := hW
  have hA : DataW.TrodAll enc Try.prog W 0 (fun _ => true) true Try.f3.params.toList args.toList ds p := hA0
  rw [Try.params3] at hA hval
  obtain ⟨v0, vs0, d0, ds0, p0, q0, hargs, rfl, rfl, h0, r0⟩ := trodAll_cons hA
  obtain ⟨rfl, rfl, rfl⟩ := trodAll_nil r0
  obtain rfl : args = #[v0] := by cases args; simp_all
  obtain ⟨rfl, rfl⟩ := trodVars_none hV
  obtain ⟨x0a, wx0a⟩ := open_steps (hval 0 22 v0 rfl rfl) h0
  refine (plays_walk _ _ W wx0a).mono fun e W' ⟨he, hb⟩ => ?_
  subst he
  exact ⟨_, rfl, post_true laidOut (by kernel_rfl) rfl hW' hb (trodAll_mk1 (shut_bool Try.underlying4 _)) rfl rfl⟩

theorem plays_holds : Rows.HeapPlaysSaid :=
  OpenClaim.holds_of_wide 3 Try.f3 rfl rfl rfl rfl rfl rfl rfl ⟨rfl, rfl, rfl, rfl, rfl⟩ rfl rfl rfl rfl rfl (by kernel_rfl) Try.func3 (by kernel_rfl)
    (of_decide_eq_true (by kernel_rfl)) (by unfold Func.isWrapper; rw [if_neg (of_decide_eq_false (by kernel_rfl))]; exact ⟨rfl, rfl⟩)
    (fun os started H enc _ => plays_lifted os started H enc)
#print axioms plays_holds
end Go.Proofs.Ytamhngjhgdmgbaa
