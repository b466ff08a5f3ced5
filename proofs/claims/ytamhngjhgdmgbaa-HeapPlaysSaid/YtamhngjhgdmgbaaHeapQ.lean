/- Package heap: Pop. -/
import Derived.Test.YtamhngjhgdmgbaaHeapW
import Derived.Test.YtamhngjhgdmgbaaHeapT
import Derived.Deep.CutRange
import Derived.BigRegion
namespace Go.Proofs.Ytamhngjhgdmgbaa
open Go.RowKit

set_option maxHeartbeats 4000000 in
theorem pop_some (B h : Nat) (v : Value) (xs : List Psh) (c : Int) (w : World) (H : IsHeap w B h v xs c) (n : Nat) (hn : xs.length = n + 1) (hm : n ≤ 1000) (hor : OrdG p0 leP xs) (x : Ent) (hx : (xs.getD 0 p0).e = x) :
    Calls Try.prog 12 #[.pointer (some ⟨h, 0, none⟩)] w fun e w' => e = .returned (.tuple #[.agg #[.int .i64 x.id, .int .u64 x.hi, .int .u64 x.lo, .int .u64 x.den, .bool x.item, .int .i64 x.node], .bool true]) ∧ Popped B h v xs c w w' := by
  have hl := H.blk.lt
  have HT := fun (z : World) (hz : Below w.heap.size w z) => top_some B h v xs c z (H.grow hz) (by omega) x hx
  have HH := Lib.hid H
  have HX := Lib.hid hx
  have HOR := Lib.hid hor
  have HN := Lib.hid hn
  clear H hx hor hn
  go_enter Try.func12, Try.ntmps12
  go_upto_region 4 with (go_at_call 15; refine (HT _ (by (repeat' (first | (with_reducible exact Below.refl _ _) | (with_reducible assumption) | (with_reducible refine Below.alloc ?_ ?_ _) | (with_reducible refine Below.drew ?_) | (with_reducible refine drewN_below ?_ _) | (with_reducible refine Below.setCell ?_ ?_ _) | (with_reducible refine below_call (by with_reducible assumption) ?_ ?_) | (first | (with_reducible exact Nat.le_refl _) | (with_reducible assumption) | omega | (simp; done) | (simp; omega)))))).mono ?_; rintro e w' ⟨rfl, hB⟩; obtain ⟨hc, hf⟩ := keep hB; have hz := hB.size; try simp at hz)
  clear HT hc hf
  obtain ⟨W, hW⟩ : ∃ W, W = w'.alloc (Obj.cells #[Value.int IntKind.i64 x.id, Value.int IntKind.u64 x.hi, Value.int IntKind.u64 x.lo, Value.int IntKind.u64 x.den, Value.bool x.item, Value.int IntKind.i64 x.node] 40) := ⟨_, rfl⟩
  obtain ⟨E, hE⟩ : ∃ E, E = w'.heap.size := ⟨_, rfl⟩
  obtain ⟨R, hR⟩ : ∃ R, R = w.heap.size := ⟨_, rfl⟩
  rw [← hW, ← hE, ← hR]
  have bW : Below w.heap.size w W := by rw [hW]; (repeat' (first | (with_reducible exact Below.refl _ _) | (with_reducible assumption) | (with_reducible refine Below.alloc ?_ ?_ _) | (with_reducible refine Below.drew ?_) | (with_reducible refine drewN_below ?_ _) | (with_reducible refine Below.setCell ?_ ?_ _) | (with_reducible refine below_call (by with_reducible assumption) ?_ ?_) | (first | (with_reducible exact Nat.le_refl _) | (with_reducible assumption) | omega | (simp; done) | (simp; omega))))
  have bE : Blk W E 40 #[Value.int IntKind.i64 x.id, Value.int IntKind.u64 x.hi, Value.int IntKind.u64 x.lo, Value.int IntKind.u64 x.den, Value.bool x.item, Value.int IntKind.i64 x.node] := by
    rw [hW]; exact Blk.new' _ _ hE
  have bR : Blk W R 40 #[Value.int IntKind.i64 0, Value.int IntKind.u64 0, Value.int IntKind.u64 0, Value.int IntKind.u64 0, Value.bool false, Value.int IntKind.i64 0] := by
    rw [hW]
    exact (blk_grow (Blk.new' _ _ hR) hB).alloc _
  have H := HH.out.grow bW
  have kW : Kept B h v w W := Kept.of_below bW (by have := HH.out.base; omega)
  obtain ⟨g, cap, hv, hBg, -, hgh, -⟩ := H.at_ (by have := HN.out; omega)
  have hgl := (HH.out.own_lt (g := g) (by rw [hv]; rfl)).2
  rw [HN.out] at hv
  subst hv
  clear hW hB
  have hER : R < E := by omega
  have hhR : h < R := by omega
  have hgR : g < R := by omega
  -- h.l[0] = h.l[n]
  have w2 := IntWalk.i64_in (n := (n : Int) + 1 - 1) (by omega)
  obtain ⟨X, hX⟩ : ∃ X, xs.getD n p0 = X := ⟨_, rfl⟩
  have s0 := H.blk.cell 0
  have sf := H.blk.frozen 0
  simp at s0
  obtain ⟨g', cap', hv, -, -, -, hcc⟩ := H.at_ (by have := HN.out; omega)
  simp only [Value.slice.injEq, Option.some.injEq, Addr.mk.injEq, and_true] at hv
  obtain ⟨rfl, -, rfl⟩ := hv
  have x0 := hcc n (by have := HN.out; omega)
  have y0 := hcc 0 (by have := HN.out; omega)
  rw [hX] at x0
  have fz : ∀ j, W.frozen? ⟨g, j, none⟩ = false := by have o := H.own; rw [HN.out] at o; exact o.frozenAt
  have x0a := x0 0 _ rfl
  have x1a := x0 1 _ rfl
  have x2a := x0 2 _ rfl
  have x3a := x0 3 _ rfl
  have x4a := x0 4 _ rfl
  have x5a := x0 5 _ rfl
  have x6a := x0 6 _ rfl
  have y0a := y0 0 _ rfl
  have y1a := y0 1 _ rfl
  have y2a := y0 2 _ rfl
  have y3a := y0 3 _ rfl
  have y4a := y0 4 _ rfl
  have y5a := y0 5 _ rfl
  have y6a := y0 6 _ rfl
  simp only [Nat.add_zero, Nat.zero_mul, Nat.zero_add] at x0a y0a y1a y2a y3a y4a y5a y6a
  obtain ⟨P1, P2⟩ := put7_leaves H HN.out (show 0 < n + 1 by omega) (show WordE X.e by rw [← hX]; exact H.word_at (by have := HN.out; omega))
  have PZ := Lib.hid P1.drew
  have KZ := Lib.hid P2.drew
  have kW' := Lib.hid kW
  have bE' := Lib.hid bE
  have bR' := Lib.hid bR
  have hX' := Lib.hid hX
  have hR' := Lib.hid hR
  have i0 : (0 : Int) < (n : Int) + 1 := by omega
  have i1 : (n : Int) < (n : Int) + 1 := by omega
  have hl' := HH.out.blk.lt
  have hgl' := Lib.hid hgl
  clear P1 P2 x0 y0 hcc kW bE bR hX bW H hE hR hl hgl
  obtain ⟨Y, hY⟩ : ∃ Y, xs.getD 0 p0 = Y := ⟨_, rfl⟩
  rw [hY] at y0a y1a y2a y3a y4a y5a y6a
  have hY' := Lib.hid hY
  clear hY
  go_wp2_with fail
  go_region
  obtain ⟨Z, hZ⟩ : ∃ Z, Z = (put7 W g 0 X).drew := ⟨_, rfl⟩
  change Exit.then _ _ _ _ ((put7 W g 0 X).drew)
  have H := PZ.out
  have kZ := kW'.out.trans (Own.refl _ _) KZ.out
  have bE := KZ.out.blk bE'.out (by omega) (by simp [Value.ownBlock]; omega)
  have bR := KZ.out.blk bR'.out (by omega) (by simp [Value.ownBlock]; omega)
  rw [← hZ] at H kZ bE bR
  rw [← hZ]
  clear x0a x1a x2a x3a x4a x5a x6a y0a y1a y2a y3a y4a y5a y6a fz sf s0 w2 PZ KZ kW' bE' bR' hZ
  -- h.l = h.l[:n]
  have s0 := H.blk.cell 0
  have sf := H.blk.frozen 0
  simp at s0
  have L := cut_leaves H (by simpa using HN.out) (Nat.le_succ n)
  have hcap : n + 1 ≤ cap := by
    rcases H.own.2 with ⟨h', _⟩ | ⟨g', cap', cur, h', hb, hg, hnc, _⟩
    · simp at h'
    · simp only [Value.slice.injEq, Option.some.injEq, Addr.mk.injEq, and_true] at h'
      obtain ⟨_, _, rfl⟩ := h'
      simp [HN.out] at hnc
      omega
  have hcap2 : (n : Int) ≤ (cap : Int) := by omega
  have kZ2 := Lib.hid (kZ.trans (Own.refl _ _) L.2)
  have bE2 := Lib.hid (L.2.blk bE (by omega) (by simp [Value.ownBlock]; omega))
  have bR2 := Lib.hid (L.2.blk bR (by omega) (by simp [Value.ownBlock]; omega))
  have LL := Lib.hid L.1
  clear H kZ bE bR L hcap
  go_wp2_with fail
  go_loopg [7] n (fun gk s wr => ∃ (i : Nat) (ys : List Psh), s = .int .i64 i ∧ i ≤ n ∧ n ≤ i + gk ∧ ys.length = n ∧ (xs.getD 0 p0 :: ys).Perm xs ∧ DownBut p0 leP ys i ∧ IsHeap wr B h (.slice (some ⟨g, 0, none⟩) n cap) ys c ∧
    Kept B h (.slice (some ⟨g, 0, none⟩) (n + 1) cap) w wr ∧ Blk wr E 40 #[.int .i64 x.id, .int .u64 x.hi, .int .u64 x.lo, .int .u64 x.den, .bool x.item, .int .i64 x.node] ∧ Blk wr R 40 #[.int .i64 0, .int .u64 0, .int .u64 0, .int .u64 0, .bool false, .int .i64 0])
  case atStart =>
    have hle := HN.out
    refine ⟨0, _, rfl, Nat.zero_le _, by omega, by simp; omega, ?_, down_start (d := p0) (le := leP) (p := X) (n := n) HOR.out (by omega), LL.out, kZ2.out, bE2.out, bR2.out⟩
    cases xs with
    | nil => simp at hle
    | cons a t =>
      have ht : t.length = n := by simpa using hle
      rw [← hX'.out, ← ht]
      exact pop_perm (d := p0)
  case round =>
    obtain ⟨i, ys, rfl, hin, hgk, hlen, hpm, hdn, HI, hK, hE, hR⟩ := hrel
    clear kZ2 bE2 bR2 LL s0 sf hcap2
    have n1 : R ≠ h := by omega
    have n2 : (Value.slice (some ⟨g, 0, none⟩) n cap).ownBlock ≠ some R := by simp [Value.ownBlock]; omega
    have n3 : B ≤ R := by omega
    have n4 : w.heap.size ≤ R := by have := hR'.out; omega
    have n5 : E ≠ h := by omega
    have n6 : (Value.slice (some ⟨g, 0, none⟩) n cap).ownBlock ≠ some E := by simp [Value.ownBlock]; omega
    obtain ⟨k1, hk1⟩ : ∃ k1, 2 * i + 1 = k1 := ⟨_, rfl⟩
    have I1 : 2 * (i : Int) + 1 = (k1 : Int) := by omega
    have m1 := IntWalk.i64_in (n := 2 * (i : Int)) (by omega)
    have m3 := IntWalk.i64_in (n := (k1 : Int)) (by omega)
    have HG := Lib.hid hgk
    have HLEN := Lib.hid hlen
    have HP := Lib.hid hpm
    have HS := Lib.hid hdn
    have HI' := Lib.hid HI
    have HK := Lib.hid hK
    have HE := Lib.hid hE
    have HR := Lib.hid hR
    have HIN := Lib.hid hin
    have HK1 := Lib.hid hk1
    have N1 := Lib.hid n1
    have N2 := Lib.hid n2
    have N3 := Lib.hid n3
    have N4 := Lib.hid n4
    have N5 := Lib.hid n5
    have N6 := Lib.hid n6
    clear hgk hlen hpm hdn HI hK hE hR hin hk1 n1 n2 n3 n4 n5 n6 hBg hl' hER hhR hgR i0 i1
    by_cases c1 : k1 < n
    · have c1' : (k1 : Int) < (n : Int) := by omega
      obtain ⟨k2, hk2⟩ : ∃ k2, k1 + 1 = k2 := ⟨_, rfl⟩
      have I2 : (k1 : Int) + 1 = (k2 : Int) := by omega
      have m4 := IntWalk.i64_in (n := (k2 : Int)) (by omega)
      obtain ⟨b1, hb1⟩ : ∃ b1, decide (ordP (ys.getD k2 p0) (ys.getD k1 p0) < 0) = b1 := ⟨_, rfl⟩
      obtain ⟨bb, hbb⟩ : ∃ bb, bb = decide (k1 + 1 < n ∧ ordP (ys.getD (k1 + 1) p0) (ys.getD k1 p0) < 0) := ⟨_, rfl⟩
      have hbb1 : k2 < n → bb = b1 := by
        intro hc
        rw [hbb, ← hb1, hk2]
        simp [hc]
      have hbb2 : ¬ k2 < n → bb = false := by
        intro hc
        rw [hbb, hk2]
        simp [hc]
      have HC1 := fun c2 : k2 < n => hless_at B h g n cap ys c k2 k1 wr HI'.out HLEN.out c2 c1
      rw [hb1] at HC1
      obtain ⟨kk, hkk⟩ : ∃ kk, kk = if bb then k1 + 1 else k1 := ⟨_, rfl⟩
      obtain ⟨q1, q2, q3, q4⟩ := least_child HLEN.out HK1.out c1 hbb kk hkk
      have HB1 := Lib.hid hb1
      have HBB := Lib.hid hbb
      have HBB1 := Lib.hid hbb1
      have HBB2 := Lib.hid hbb2
      have HKK := Lib.hid hkk
      have Q1 := Lib.hid q1
      have Q2 := Lib.hid q2
      have Q3 := Lib.hid q3
      have Q4 := Lib.hid q4
      have HK2 := Lib.hid hk2
      clear hb1 hbb hbb1 hbb2 hkk q1 q2 q3 q4 hk2
      go_upto_region 10 with fail
      go_cut [62] from 44 to 96 (fun s wx => s = .bool bb ∧ Below wr.heap.size wr wx)
      case first =>
        by_cases c2 : k2 < n
        · have c2' : (k2 : Int) < (n : Int) := by omega
          go_wp2_with (go_at_call 21; refine (HC1 c2).mono ?_; rintro e w'' ⟨rfl, hB⟩)
          go_meet
          case rel => exact ⟨by rw [HBB1.out c2], hB⟩
        · have c2' : decide ((k2 : Int) < (n : Int)) = false := decide_eq_false (by omega)
          go_wp2_with fail
          go_meet
          case rel => exact ⟨by rw [HBB2.out c2], Below.refl _ _⟩
      case rest =>
      obtain ⟨rfl, hB1⟩ := hcut
      obtain ⟨w1, hw1⟩ : ∃ z, z = wc := ⟨_, rfl⟩
      subst hw1
      have hi : i < n := by have := HK1.out; omega
      go_upto_if 62 with fail
      go_cut [8] from 44 to 96 (fun s wx => s = .int .i64 kk ∧ wx = w1)
      case first =>
        have hkk := HKK.out
        cases bb
        · simp at hkk
          subst hkk
          go_wp2_with fail
          go_meet
          case rel => exact ⟨rfl, rfl⟩
        · simp at hkk
          rw [HK2.out] at hkk
          subst hkk
          go_wp2_with fail
          go_meet
          case rel => exact ⟨rfl, rfl⟩
      case rest =>
      obtain ⟨rfl, hw⟩ := hcut
      have hw' := hw.symm
      clear hw
      subst hw'
      have HI2 := Lib.hid (HI'.out.grow hB1)
      have hBw : B ≤ wr.heap.size := by have := HI'.out.blk.lt; have := HI'.out.base; omega
      have hB2 : B ≤ w1.heap.size := by have := HI2.out.blk.lt; have := HI2.out.base; omega
      have HKw := Lib.hid (HK.out.trans (v1 := .slice (some ⟨g, 0, none⟩) n cap) (fun q hq => .inl hq) (Kept.of_below hB1 hBw))
      have HEw := Lib.hid (blk_grow HE.out hB1)
      have HRw := Lib.hid (blk_grow HR.out hB1)
      have HC2 := hless_at B h g n cap ys c kk i w1 HI2.out HLEN.out Q1.out hi
      obtain ⟨b2, hb2⟩ : ∃ b2, decide (ordP (ys.getD kk p0) (ys.getD i p0) < 0) = b2 := ⟨_, rfl⟩
      rw [hb2] at HC2
      have HB2 := Lib.hid hb2
      have HBw := Lib.hid hBw
      have HBz := Lib.hid hB2
      clear HC1 hB1 hb2 hBw hB2
      cases b2
      · go_upto_region 15 with (go_at_call 21; refine HC2.mono ?_; rintro e w'' ⟨rfl, hB⟩)
        obtain ⟨z, hz⟩ : ∃ z, z = w'' := ⟨_, rfl⟩
        subst hz
        have hno : ¬ ordP (ys.getD kk p0) (ys.getD i p0) < 0 := of_decide_eq_false HB2.out
        have hneg := ordP_neg (ys.getD kk p0) (ys.getD i p0)
        have D : OrdG p0 leP ys := down_done HS.out (fun j h0 hj he => leP_trans (HI2.out.word_at (by have := HLEN.out; omega)) (HI2.out.word_at (by have := Q1.out; have := HLEN.out; omega)) (HI2.out.word_at hj) (by unfold leP; omega) (Q4.out j h0 hj he))
        have HI3 := Lib.hid (HI2.out.grow hB)
        have HK3 := Lib.hid (HKw.out.trans (v1 := .slice (some ⟨g, 0, none⟩) n cap) (fun q hq => .inl hq) (Kept.of_below hB HBz.out))
        have HE3 := Lib.hid (blk_grow HEw.out hB)
        have HR3 := Lib.hid (blk_grow HRw.out hB)
        clear hno hneg HC2 hB
        have D' := Lib.hid D
        clear D
        have bE := HE3.out
        have bR := HR3.out
        have e0 := bE.cell 0
        have r0 := bR.cell 0
        have q0 := bR.frozen 0
        have e1 := bE.cell 1
        have r1 := bR.cell 1
        have q1 := bR.frozen 1
        have e2 := bE.cell 2
        have r2 := bR.cell 2
        have q2 := bR.frozen 2
        have e3 := bE.cell 3
        have r3 := bR.cell 3
        have q3 := bR.frozen 3
        have e4 := bE.cell 4
        have r4 := bR.cell 4
        have q4 := bR.frozen 4
        have e5 := bE.cell 5
        have r5 := bR.cell 5
        have q5 := bR.frozen 5
        simp at e0 e1 e2 e3 e4 e5 r0 r1 r2 r3 r4 r5
        have bE9 := Lib.hid bE
        have bR9 := Lib.hid bR
        clear bE bR
        go_wp2_with fail
        exact bodyPost_ret (v := .tuple #[.agg #[.int .i64 x.id, .int .u64 x.hi, .int .u64 x.lo, .int .u64 x.den, .bool x.item, .int .i64 x.node], .bool true]) (by simp [*, results, Try.results12, go_sem]) rfl ⟨rfl, _, ys, ((((((HI3.out.side N1.out N2.out 0 _).side N1.out N2.out 1 _).side N1.out N2.out 2 _).side N1.out N2.out 3 _).side N1.out N2.out 4 _).side N1.out N2.out 5 _), D'.out, HP.out, ((((((HK3.out.side N3.out N4.out 0 _).side N3.out N4.out 1 _).side N3.out N4.out 2 _).side N3.out N4.out 3 _).side N3.out N4.out 4 _).side N3.out N4.out 5 _), (fun q hq => .inl hq)⟩
      · go_upto_region 13 with (go_at_call 21; refine HC2.mono ?_; rintro e w'' ⟨rfl, hB⟩)
        obtain ⟨z, hz⟩ : ∃ z, z = w'' := ⟨_, rfl⟩
        subst hz
        have J := HI2.out.grow hB
        have HK3 := Lib.hid (HKw.out.trans (v1 := .slice (some ⟨g, 0, none⟩) n cap) (fun q hq => .inl hq) (Kept.of_below hB HBz.out))
        have HE3 := Lib.hid (blk_grow HEw.out hB)
        have HR3 := Lib.hid (blk_grow HRw.out hB)
        obtain ⟨g', cap', hv, -, -, -, hcc⟩ := J.at_ (by have := HLEN.out; omega)
        simp only [Value.slice.injEq, Option.some.injEq, Addr.mk.injEq, and_true] at hv
        obtain ⟨rfl, -, rfl⟩ := hv
        have s0 := J.blk.cell 0
        simp at s0
        have x0 := hcc kk (by have := HLEN.out; have := Q1.out; omega)
        have y0 := hcc i (by have := HLEN.out; omega)
        obtain ⟨X2, hX2⟩ : ∃ X2, ys.getD kk p0 = X2 := ⟨_, rfl⟩
        obtain ⟨Y2, hY2⟩ : ∃ Y2, ys.getD i p0 = Y2 := ⟨_, rfl⟩
        rw [hX2] at x0
        rw [hY2] at y0
        have hkn : (kk : Int) < (n : Int) := by have := Q1.out; omega
        have hqn : (i : Int) < (n : Int) := by omega
        have fz : ∀ j, z.frozen? ⟨g, j, none⟩ = false := by have o := J.own; rw [HLEN.out] at o; exact o.frozenAt
        have J' := Lib.hid J
        have x0a := x0 0 _ rfl
        have x1a := x0 1 _ rfl
        have x2a := x0 2 _ rfl
        have x3a := x0 3 _ rfl
        have x4a := x0 4 _ rfl
        have x5a := x0 5 _ rfl
        have x6a := x0 6 _ rfl
        have y0a := y0 0 _ rfl
        have y1a := y0 1 _ rfl
        have y2a := y0 2 _ rfl
        have y3a := y0 3 _ rfl
        have y4a := y0 4 _ rfl
        have y5a := y0 5 _ rfl
        have y6a := y0 6 _ rfl
        simp only [Nat.add_zero] at x0a y0a
        have hik : i < kk := by have := Q3.out; have := Q2.out; omega
        have n1 : ¬ kk = i := by omega
        have n2 : ¬ i = kk := by omega
        have HX2 := Lib.hid hX2
        have HY2 := Lib.hid hY2
        have HIK := Lib.hid hik
        have HIL := Lib.hid hi
        clear HC2 hcc x0 y0 hX2 hY2 hB J hik hi I1 m1 m3 I2 m4 c1 c1' hm
        go_region
        go_wp2_with fail
        go_roundg (n - kk)
        case measure => have := HG.out; have := HIK.out; have := Q1.out; omega
        case rel =>
          obtain ⟨S1, S2⟩ := swap_leaves J'.out HLEN.out HIL.out Q1.out HY2.out HX2.out
          have hq1 := Q1.out
          have hb := of_decide_eq_true HB2.out
          have hl2 := HLEN.out
          have hil := HIL.out
          exact ⟨kk, swapG p0 ys i kk, rfl, by omega, by omega, by rw [swapG_length]; exact hl2, ((swapG_perm (by omega) (by omega)).cons _).trans HP.out,
            down_step (le := leP) HS.out (by omega) Q2.out Q3.out (by unfold leP; omega) Q4.out, S1, HK3.out.trans (v1 := .slice (some ⟨g, 0, none⟩) n cap) (fun q hq => .inl hq) S2, S2.blk HE3.out N5.out N6.out, S2.blk HR3.out N1.out N2.out⟩
    · have c1' : decide ((k1 : Int) < (n : Int)) = false := decide_eq_false (by omega)
      have bE := HE.out
      have bR := HR.out
      have e0 := bE.cell 0
      have r0 := bR.cell 0
      have q0 := bR.frozen 0
      have e1 := bE.cell 1
      have r1 := bR.cell 1
      have q1 := bR.frozen 1
      have e2 := bE.cell 2
      have r2 := bR.cell 2
      have q2 := bR.frozen 2
      have e3 := bE.cell 3
      have r3 := bR.cell 3
      have q3 := bR.frozen 3
      have e4 := bE.cell 4
      have r4 := bR.cell 4
      have q4 := bR.frozen 4
      have e5 := bE.cell 5
      have r5 := bR.cell 5
      have q5 := bR.frozen 5
      simp at e0 e1 e2 e3 e4 e5 r0 r1 r2 r3 r4 r5
      have bE9 := Lib.hid bE
      have bR9 := Lib.hid bR
      clear bE bR
      go_wp2_with fail
      exact bodyPost_ret (v := .tuple #[.agg #[.int .i64 x.id, .int .u64 x.hi, .int .u64 x.lo, .int .u64 x.den, .bool x.item, .int .i64 x.node], .bool true]) (by simp [*, results, Try.results12, go_sem]) rfl ⟨rfl, _, ys, ((((((HI'.out.side N1.out N2.out 0 _).side N1.out N2.out 1 _).side N1.out N2.out 2 _).side N1.out N2.out 3 _).side N1.out N2.out 4 _).side N1.out N2.out 5 _), down_done HS.out (fun j h0 hj he => absurd hj (by have := HK1.out; have := HLEN.out; omega)), HP.out, ((((((HK.out.side N3.out N4.out 0 _).side N3.out N4.out 1 _).side N3.out N4.out 2 _).side N3.out N4.out 3 _).side N3.out N4.out 4 _).side N3.out N4.out 5 _), (fun q hq => .inl hq)⟩
end Go.Proofs.Ytamhngjhgdmgbaa
