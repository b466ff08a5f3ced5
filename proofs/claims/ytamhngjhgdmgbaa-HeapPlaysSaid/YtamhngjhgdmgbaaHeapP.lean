/- Package heap: Push. -/
import Derived.Test.YtamhngjhgdmgbaaHeapW
import Derived.Deep.RegionLaw
import Derived.Deep.CutRange
import Derived.BigRegion
namespace Go.Proofs.Ytamhngjhgdmgbaa
open Go.RowKit

theorem info_psh : (Try.prog.info? 60).map (fun i => (i.zero, i.size, i.bytes)) = some (some (.agg #[.int .i64 0, .int .u64 0, .int .u64 0, .int .u64 0, .bool false, .int .i64 0, .int .i64 0]), 7, 56) := by kernel_rfl

theorem half (k : Nat) (h0 : 0 < k) : ((k : Int) - 1).tdiv 2 = (((k - 1) / 2 : Nat) : Int) := by
  rw [Int.tdiv_eq_ediv_of_nonneg (by omega)]; omega

theorem World.cell?_drewAlloc (W : World) (o : Obj) (p : Addr) (hp : p.block < W.heap.size) : (W.drew.alloc o).cell? p = W.cell? p := World.cell?_of_block (w := W) (Below.heap_alloc W.drew o p.block hp)
theorem World.frozen?_drewAlloc (W : World) (o : Obj) (p : Addr) (hp : p.block < W.heap.size) : (W.drew.alloc o).frozen? p = W.frozen? p := World.frozen?_of_block (w := W) (Below.heap_alloc W.drew o p.block hp)

set_option maxHeartbeats 4000000 in
theorem push_any (B h : Nat) (v : Value) (xs : List Psh) (c : Int) (x : Ent) (w : World) (H : IsHeap w B h v xs c) (hc : 0 ≤ c ∧ c ≤ 1000) (hm : xs.length ≤ 1000) (hx : WordE x) (hor : OrdG p0 leP xs) :
    Calls Try.prog 10 #[.pointer (some ⟨h, 0, none⟩), .agg #[.int .i64 x.id, .int .u64 x.hi, .int .u64 x.lo, .int .u64 x.den, .bool x.item, .int .i64 x.node]] w fun e w' => e = .returned (.tuple #[]) ∧ Pushed B h v xs c x w w' := by
  obtain ⟨i0, hi0, hz0, hz1, hz2⟩ := info_parts info_psh
  have hl := H.blk.lt
  have k0 := H.blk.cell 0
  have k1 := H.blk.cell 1
  have g0 := H.blk.frozen 0
  have g1 := H.blk.frozen 1
  simp at k0 k1
  have hw := IntWalk.i64_in (n := c + 1) (by omega)
  have HH := Lib.hid H
  have HB := H.base
  have HO := H.own
  have HL := fun g => H.own_lt (g := g)
  have HA := H.apart
  clear H
  go_enter Try.func10, Try.ntmps10
  go_upto_region 3 with fail
  go_cut [] from 14 to 77 (fun wx => ∃ v', IsHeap wx B h v' (xs ++ [⟨x, c + 1⟩]) (c + 1) ∧ Kept B h v w wx ∧ Own v v' w)
  case first =>
    obtain ⟨W, hW⟩ : ∃ W, W = ((w.setCell { block := h, off := 1 } (Value.int IntKind.i64 (c + 1))).alloc (Obj.cells #[Value.int IntKind.i64 x.id, Value.int IntKind.u64 x.hi, Value.int IntKind.u64 x.lo, Value.int IntKind.u64 x.den, Value.bool x.item, Value.int IntKind.i64 x.node] 40)) := ⟨_, rfl⟩
    rw [← hW]
    have kW : Kept B h v w W := by
      rw [hW]
      have k1 := (Kept.refl B h v w).set_ HB 1 (Value.int IntKind.i64 (c + 1))
      exact k1.trans (Own.refl _ _) (Kept.of_below (Below.alloc (Below.refl _ _) (Nat.le_refl _) _) (by simp; omega))
    have bW : Blk W h 51 #[v, .int .i64 (c + 1)] := by
      rw [hW]
      exact (HH.out.blk.set_ 1 (Value.int IntKind.i64 (c + 1))).alloc _
    have xW : Blk W w.heap.size 40 #[Value.int IntKind.i64 x.id, Value.int IntKind.u64 x.hi, Value.int IntKind.u64 x.lo, Value.int IntKind.u64 x.den, Value.bool x.item, Value.int IntKind.i64 x.node] := by
      rw [hW]
      exact Blk.new' _ _ (by simp)
    have oW : W.ownsRow B 60 7 v xs.length (rowCells xs) := own_far HO (fun g hg => by rw [hW]; rw [Below.heap_alloc _ _ _ (by simp; exact (HL g hg).2), Below.heap_setCell _ _ _ _ (HA g hg)])
    have hsW := kW.below.size
    clear hW k0 k1 g0 g1 HO
    have a0 := bW.cell 0
    have a1 := bW.cell 1
    have f0 := bW.frozen 0
    have b0 := xW.cell 0
    have b1 := xW.cell 1
    have b2 := xW.cell 2
    have b3 := xW.cell 3
    have b4 := xW.cell 4
    have b5 := xW.cell 5
    simp at a0 a1 b0 b1 b2 b3 b4 b5
    have bW' := Lib.hid bW; clear bW
    have xW' := Lib.hid xW; clear xW
    have kW' := Lib.hid kW; clear kW
    have oW' := Lib.hid oW; clear oW
    go_region_law (first | (refine step_append_lies _ rfl (.tmp 18) (.tmp 25) _ rfl B 60 i0 _ 7 56 Try.underlying49 hi0 hz0 hz1 hz2 rfl (by decide) v xs.length (rowCells xs) rfl ((oW'.out.drew).alloc _) ⟨W.heap.size, 0, none⟩ 1 1 (pshCells ⟨x, c + 1⟩) rfl rfl (World.news_of_block (Blk.new' _ _ (by first | rfl | simp))) (by intro u hu; simp [pshCells] at hu; rcases hu with rfl | rfl | rfl | rfl | rfl | rfl | rfl <;> rfl) (by decide) (by unfold maxLen; omega) (by omega) (by simp; omega) (W.heap.size + 1) (by simp) ?_; intro g cap w1 hown1 hgrow hat hlt1; have q0 := (hgrow.cell_far ⟨h, 0, none⟩ (by simp; omega) (fun e => HA h e.symm rfl)).trans ((World.cell?_drewAlloc W _ ⟨h, 0, none⟩ (by simp; omega)).trans a0); have qf := (hgrow.frozen_far ⟨h, 0, none⟩ (by simp; omega) (fun e => HA h e.symm rfl)).trans ((World.frozen?_drewAlloc W _ ⟨h, 0, none⟩ (by simp; omega)).trans f0)))
    all_goals (go_wp2_with fail)
    all_goals go_meet
    all_goals exact ⟨_, append_leaves HH.out rfl (kW'.out.trans (Own.refl _ _) (Kept.of_below ((Below.alloc (Below.refl _ _) (Nat.le_refl _) _).drew) (by omega))) ((bW'.out.alloc _).drewN 1) hx hown1 hgrow (by simpa using hat)⟩
  case rest =>
    obtain ⟨v', H', hk, ho⟩ := hcut
    obtain ⟨g, cap, rfl, hBg, hgl, hgh, -⟩ := H'.at_ (by simp)
    have q0 := H'.blk.cell 0
    have e1 : (xs ++ [(⟨x, c + 1⟩ : Psh)]).length = xs.length + 1 := by simp
    rw [e1] at q0 H' ho
    simp at q0
    have hw2 := IntWalk.i64_in (n := (xs.length : Int) + 1 - 1) (by omega)
    clear HO HL HA
    go_wp2_with fail
    go_loopw [4] (fun t wr => ∃ (k : Nat) (xs' : List Psh), t = .int .i64 k ∧ k < xs'.length ∧ xs'.Perm (xs ++ [⟨x, c + 1⟩]) ∧ UpBut p0 leP xs' k ∧ IsHeap wr B h (.slice (some ⟨g, 0, none⟩) (xs.length + 1) cap) xs' (c + 1) ∧ Kept B h v w wr) (fun t _ => (intOf t).toNat)
    case atStart =>
      exact ⟨xs.length, _, rfl, by simp, List.Perm.refl _, up_start hor, H', hk⟩
    case round =>
      obtain ⟨k, xs', rfl, hkl, hpm, hup, HI, hK⟩ := hrel
      have hn : xs'.length = xs.length + 1 := by rw [hpm.length_eq]; simp
      have r0 := HI.blk.cell 0
      simp at r0
      have HO := Lib.hid ho
      have HOR := Lib.hid hor
      have HS := Lib.hid hup; clear hup
      have HP := Lib.hid hpm; clear hpm
      have HI' := Lib.hid HI; clear HI
      have HK := Lib.hid hK; clear hK
      clear H' q0 hw2 e1 hk ho hor k0 k1 g0 g1 hl hx hi0
      by_cases hk0 : 0 < k
      · have t2 := half k hk0
        have hqk : (k - 1) / 2 < k := by omega
        obtain ⟨q, hq⟩ : ∃ q, (k - 1) / 2 = q := ⟨_, rfl⟩
        rw [hq] at t2 hqk
        have t0 : (0 : Int) < (k : Int) := by omega
        have t1 := IntWalk.i64_in (n := (k : Int) - 1) (by omega)
        have t3 := IntWalk.i64_in (n := (q : Int)) (by omega)
        have HC := hless_at B h g (xs.length + 1) cap xs' (c + 1) k q wr HI'.out hn (by omega) (by omega)
        obtain ⟨bb, hbb⟩ : ∃ bb, decide (ordP (xs'.getD k p0) (xs'.getD q p0) < 0) = bb := ⟨_, rfl⟩
        rw [hbb] at HC
        cases bb
        · have HD := Lib.hid hbb; clear hbb
          have HN := Lib.hid hn; clear hn
          have HQ := Lib.hid hq; clear hq
          go_wp2_with (go_at_call 21; refine HC.mono ?_; rintro e w' ⟨rfl, hB⟩)
          go_end0
          refine ⟨rfl, _, xs', HI'.out.grow hB, up_done HS.out (.inr ?_), HP.out, HK.out.trans HO.out (Kept.of_below hB (by have := HI'.out.blk.lt; omega)), HO.out⟩
          have h1 := HD.out
          have h2 := ordP_neg (xs'.getD k p0) (xs'.getD q p0)
          rw [HQ.out]
          have h3 := of_decide_eq_false h1
          unfold leP
          omega
        · go_wp2_with (go_at_call 21; refine HC.mono ?_; rintro e w' ⟨rfl, hB⟩)
          have J := HI'.out.grow hB
          obtain ⟨z, hz⟩ : ∃ z, z = w' := ⟨_, rfl⟩
          rw [← hz] at hB J
          rw [← hz]
          clear hz
          obtain ⟨g', cap', hv, -, -, -, hcc⟩ := J.at_ (by omega)
          simp only [Value.slice.injEq, Option.some.injEq, Addr.mk.injEq, and_true] at hv
          obtain ⟨rfl, -, rfl⟩ := hv
          have s0 := J.blk.cell 0
          simp at s0
          have x0 := hcc k (by omega)
          have y0 := hcc q (by omega)
          obtain ⟨X, hX⟩ : ∃ X, xs'.getD k p0 = X := ⟨_, rfl⟩
          obtain ⟨Y, hY⟩ : ∃ Y, xs'.getD q p0 = Y := ⟨_, rfl⟩
          rw [hX] at x0
          rw [hY] at y0
          have hkn : (k : Int) < (xs.length : Int) + 1 := by omega
          have hqn : (q : Int) < (xs.length : Int) + 1 := by omega
          have fz : ∀ j, z.frozen? ⟨g, j, none⟩ = false := by have o := J.own; rw [hn] at o; exact o.frozenAt
          have J' := Lib.hid J; clear J
          have x0a := x0 0 _ rfl
          have x1a := x0 1 _ rfl
          have x2a := x0 2 _ rfl
          have x3a := x0 3 _ rfl
          have x4a := x0 4 _ rfl
          have x5a := x0 5 _ rfl
          have x6a := x0 6 _ rfl
          have y0a := y0 0 _ rfl
          have y1a := y0 1 _ rfl
          have y2a := y0 2 _ rfl
          have y3a := y0 3 _ rfl
          have y4a := y0 4 _ rfl
          have y5a := y0 5 _ rfl
          have y6a := y0 6 _ rfl
          simp only [Nat.add_zero] at x0a y0a
          have n1 : ¬ q = k := by omega
          have n2 : ¬ k = q := by omega
          have HN := Lib.hid hn
          have HQ := Lib.hid hq
          have HR := Lib.hid hqk
          have HB2 := Lib.hid hB
          have HD := Lib.hid hbb
          have HX := Lib.hid hX
          have HY := Lib.hid hY
          have HKL := Lib.hid hkl
          clear HC hcc x0 y0 r0 hn hq hqk hB hkl hbb hgl hgh hBg HH hw hX hY
          go_region
          go_wp2
          go_roundw
          case rel =>
            obtain ⟨S1, S2⟩ := swap_leaves J'.out HN.out (show k < _ by omega) (show q < _ by omega) HX.out HY.out
            have hqe := HQ.out
            have hD := HD.out
            have hKL := HKL.out
            refine ⟨q, swapG p0 xs' k q, rfl, by rw [swapG_length]; have := HR.out; omega, (swapG_perm hKL (by omega)).trans HP.out, ?_, S1, HK.out.trans HO.out ((Kept.of_below HB2.out (by have := HI'.out.blk.lt; omega)).trans (Own.refl _ _) S2)⟩
            have := up_step (le := leP) (S := fun p => WordE p.e) (fun _ _ _ a b c => leP_trans a b c) (fun i hi => HI'.out.word_at hi) HS.out hKL hk0 (by rw [hqe]; have h3 := of_decide_eq_true hD; unfold leP; omega)
            rw [hqe] at this
            exact this
          case measure => have := HR.out; simp [intOf]; omega
      · have hkz : k = 0 := by omega
        subst hkz
        go_wp2
        go_end0
        exact ⟨rfl, _, xs', HI'.out, up_done HS.out (.inl rfl), HP.out, HK.out, HO.out⟩
end Go.Proofs.Ytamhngjhgdmgbaa
