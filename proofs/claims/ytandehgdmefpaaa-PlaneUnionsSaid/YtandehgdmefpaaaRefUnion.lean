/- pergolaref3: Union, Area, Grow; pergolaref1.Sub. -/
import Derived.Test.YtandehgdmefpaaaRefSum
import Derived.Test.YtandehgdmefpaaaGrow
import Derived.Test.YtandehgdmefpaaaEq
import Derived.Deep.QuietTactic
import Derived.BigQuiet
namespace Go.Proofs.Ytandehgdmefpaaa
open Go.RowKit

theorem sub_words (ah al bh bl : Int) (h2 : Word al) (h4 : Word bl) :
    (¬ al < bl → loOf (num ah al - num bh bl) = IntKind.u64.wrap (al - bl) ∧ hiOf (num ah al - num bh bl) = IntKind.u64.wrap (ah - bh)) ∧
    (al < bl → loOf (num ah al - num bh bl) = IntKind.u64.wrap (al - bl) ∧ hiOf (num ah al - num bh bl) = IntKind.u64.wrap (IntKind.u64.wrap (ah - bh) - 1)) := by
  simp only [wrap_u64]
  unfold Word at *
  refine ⟨fun h => ?_, fun h => ?_⟩
  · unfold loOf hiOf num; omega
  · unfold loOf hiOf num; omega

set_option maxHeartbeats 1000000 in
theorem rsub_any (ah al bh bl : Int) (h1 : Word ah) (h2 : Word al) (h3 : Word bh) (h4 : Word bl) (w : World) :
    Calls Try.prog 54 #[.agg #[.int .u64 ah, .int .u64 al], .agg #[.int .u64 bh, .int .u64 bl]] w fun e w' => e = .returned (.tuple #[.agg #[.int .u64 (hiOf (num ah al - num bh bl)), .int .u64 (loOf (num ah al - num bh bl))], .bool (decide (cmpV (num ah al) (num bh bl) < 0))]) ∧ Below w.heap.size w w' := by
  obtain ⟨k1, k2⟩ := sub_words ah al bh bl h2 h4
  generalize loOf (num ah al - num bh bl) = L at *
  generalize hiOf (num ah al - num bh bl) = U at *
  by_cases hc : al < bl
  · obtain ⟨rfl, rfl⟩ := k2 hc
    clear k1 k2
    go_enter Try.func54, Try.ntmps54
    go_wp2
    go_region_held3 (fun z => z.cell? ⟨w.heap.size, 0, none⟩ = some (.int .u64 ah) ∧ z.cell? ⟨w.heap.size, 1, none⟩ = some (.int .u64 al) ∧ z.cell? ⟨w.heap.size + 1, 0, none⟩ = some (.int .u64 bh) ∧ z.cell? ⟨w.heap.size + 1, 1, none⟩ = some (.int .u64 bl) ∧ z.cell? ⟨w.heap.size + 1 + 1 + 1, 0, none⟩ = some (.int .u64 (IntKind.u64.wrap (IntKind.u64.wrap (ah - bh) - 1))) ∧ z.cell? ⟨w.heap.size + 1 + 1 + 1, 1, none⟩ = some (.int .u64 (IntKind.u64.wrap (al - bl)))) (simp [*, go_sem])
      (first | (go_at_call 29; refine (rcompare_any _ _ _ _ h1 h2 h3 h4 _).mono ?_; rintro e w' ⟨rfl, hB⟩; obtain ⟨hc, hf⟩ := keep hB; have hz := hB.size; try simp at hz))
    go_wp2
    exact bodyPost_ret (v := .tuple #[.agg #[.int .u64 (IntKind.u64.wrap (IntKind.u64.wrap (ah - bh) - 1)), .int .u64 (IntKind.u64.wrap (al - bl))], .bool (decide (cmpV (num ah al) (num bh bl) < 0))]) (by simp [*, results, Try.results54, go_sem]) rfl ⟨rfl, by (repeat' (first | (with_reducible exact Below.refl _ _) | (with_reducible assumption) | (with_reducible refine Below.alloc ?_ ?_ _) | (with_reducible refine Below.drew ?_) | (with_reducible refine Below.setCell ?_ ?_ _) | (with_reducible refine below_call (by with_reducible assumption) ?_ ?_) | (first | (with_reducible exact Nat.le_refl _) | (with_reducible assumption) | omega | (simp; done) | (simp; omega))))⟩
  · obtain ⟨rfl, rfl⟩ := k1 hc
    clear k1 k2
    go_enter Try.func54, Try.ntmps54
    go_wp2
    go_region_held3 (fun z => z.cell? ⟨w.heap.size, 0, none⟩ = some (.int .u64 ah) ∧ z.cell? ⟨w.heap.size, 1, none⟩ = some (.int .u64 al) ∧ z.cell? ⟨w.heap.size + 1, 0, none⟩ = some (.int .u64 bh) ∧ z.cell? ⟨w.heap.size + 1, 1, none⟩ = some (.int .u64 bl) ∧ z.cell? ⟨w.heap.size + 1 + 1 + 1, 0, none⟩ = some (.int .u64 (IntKind.u64.wrap (ah - bh))) ∧ z.cell? ⟨w.heap.size + 1 + 1 + 1, 1, none⟩ = some (.int .u64 (IntKind.u64.wrap (al - bl)))) (simp [*, go_sem])
      (first | (go_at_call 29; refine (rcompare_any _ _ _ _ h1 h2 h3 h4 _).mono ?_; rintro e w' ⟨rfl, hB⟩; obtain ⟨hc, hf⟩ := keep hB; have hz := hB.size; try simp at hz))
    go_wp2
    exact bodyPost_ret (v := .tuple #[.agg #[.int .u64 (IntKind.u64.wrap (ah - bh)), .int .u64 (IntKind.u64.wrap (al - bl))], .bool (decide (cmpV (num ah al) (num bh bl) < 0))]) (by simp [*, results, Try.results54, go_sem]) rfl ⟨rfl, by (repeat' (first | (with_reducible exact Below.refl _ _) | (with_reducible assumption) | (with_reducible refine Below.alloc ?_ ?_ _) | (with_reducible refine Below.drew ?_) | (with_reducible refine Below.setCell ?_ ?_ _) | (with_reducible refine below_call (by with_reducible assumption) ?_ ?_) | (first | (with_reducible exact Nat.le_refl _) | (with_reducible assumption) | omega | (simp; done) | (simp; omega))))⟩
theorem rsub_big (m n : Int) (hm : Big m) (hn : Big n) (w : World) :
    Calls Try.prog 54 #[.agg #[.int .u64 (hiOf m), .int .u64 (loOf m)], .agg #[.int .u64 (hiOf n), .int .u64 (loOf n)]] w fun e w' => e = .returned (.tuple #[.agg #[.int .u64 (hiOf (m - n)), .int .u64 (loOf (m - n))], .bool (decide (cmpV m n < 0))]) ∧ Below w.heap.size w w' := by
  have h := rsub_any (hiOf m) (loOf m) (hiOf n) (loOf n) (hiOf_word _) (loOf_word _) (hiOf_word _) (loOf_word _) w
  rw [num_hl hm, num_hl hn] at h
  exact h

set_option maxHeartbeats 400000 in
theorem rarea_any (lx ly hx hy : Int) (w : World) :
    Calls Try.prog 39 #[.agg #[.int .i64 lx, .int .i64 ly, .int .i64 hx, .int .i64 hy]] w fun e w' => e = .returned (.agg #[.int .u64 (hiOf (areaN (lx, ly, hx, hy))), .int .u64 (loOf (areaN (lx, ly, hx, hy)))]) ∧ Below w.heap.size w w' := by
  cases h : boxB (lx, ly, hx, hy)
  · have e1 : areaN (lx, ly, hx, hy) = 0 := by simp [areaN, h]
    rw [e1]; clear e1
    have hcz := h
    rw [boxB_code] at hcz
    simp at hcz
    go_enter Try.func39, Try.ntmps39
    go_wp2_with (first | (go_at_call 15; refine (rcheckBox_any _ _ _ _ _).mono ?_; rintro e w' ⟨rfl, hB⟩; obtain ⟨hc, hf⟩ := keep hB; have hz := hB.size; try simp at hz))
    exact bodyPost_ret (v := .agg #[.int .u64 0, .int .u64 0]) (by simp [*, results, Try.results39, go_sem]) rfl ⟨rfl, by (repeat' (first | (with_reducible exact Below.refl _ _) | (with_reducible assumption) | (with_reducible refine Below.alloc ?_ ?_ _) | (with_reducible refine Below.drew ?_) | (with_reducible refine Below.setCell ?_ ?_ _) | (with_reducible refine below_call (by with_reducible assumption) ?_ ?_) | (first | (with_reducible exact Nat.le_refl _) | (with_reducible assumption) | omega | (simp; done) | (simp; omega))))⟩
  · have e1 : areaN (lx, ly, hx, hy) = (hx - lx) * (hy - ly) := by simp [areaN, h]
    rw [e1]; clear e1
    obtain ⟨⟨a1, a2⟩, ⟨b1, b2⟩, ⟨c1, c2⟩, ⟨d1, d2⟩, e1, e2⟩ := boxB_bd h
    dsimp only at a1 a2 b1 b2 c1 c2 d1 d2 e1 e2
    have i1 : Word (hx - lx) := by unfold Word; omega
    have i2 : Word (hy - ly) := by unfold Word; omega
    have hcz := h
    rw [boxB_code] at hcz
    simp at hcz
    go_enter Try.func39, Try.ntmps39
    go_wp2_with (first | (go_at_call 15; refine (rcheckBox_any _ _ _ _ _).mono ?_; rintro e w' ⟨rfl, hB⟩; obtain ⟨hc, hf⟩ := keep hB; have hz := hB.size; try simp at hz) | (go_at_call 53; refine (rmul_any _ _ i1 i2 _).mono ?_; rintro e w' ⟨rfl, hB⟩; obtain ⟨hc, hf⟩ := keep hB; have hz := hB.size; try simp at hz))
    exact bodyPost_ret (v := .agg #[.int .u64 (hiOf ((hx - lx) * (hy - ly))), .int .u64 (loOf ((hx - lx) * (hy - ly)))]) (by simp [*, results, Try.results39, go_sem]) rfl ⟨rfl, by (repeat' (first | (with_reducible exact Below.refl _ _) | (with_reducible assumption) | (with_reducible refine Below.alloc ?_ ?_ _) | (with_reducible refine Below.drew ?_) | (with_reducible refine Below.setCell ?_ ?_ _) | (with_reducible refine below_call (by with_reducible assumption) ?_ ?_) | (first | (with_reducible exact Nat.le_refl _) | (with_reducible assumption) | omega | (simp; done) | (simp; omega))))⟩

set_option maxHeartbeats 1000000 in
theorem runion_any (b off n cap : Nat) (bs : List B4) (w : World) (hn : bs.length ≤ n) (hn' : n ≤ bs.length) (hm : n ≤ 1000000000000) (h0 : 0 < n) (hb : b < w.heap.size) (hp : BoxesFrom w b off bs) :
    Calls Try.prog 35 #[.slice (some ⟨b, off, none⟩) n cap] w fun e w' => e = .returned (.tuple #[.agg #[.int .i64 ((unionV bs).1), .int .i64 ((unionV bs).2.1), .int .i64 ((unionV bs).2.2.1), .int .i64 ((unionV bs).2.2.2)], .int .i64 (unionE bs)]) ∧ Below w.heap.size w w' := by
  have mn : ∀ x y : Int, (if y < x then y else x) = minV x y := fun _ _ => rfl
  have mx : ∀ x y : Int, (if x < y then y else x) = maxV x y := fun _ _ => rfl
  have c0 := hp 0 (by omega)
  rw [Nat.zero_mul, Nat.add_zero] at c0
  obtain ⟨c0, c1, c2, c3⟩ := c0
  have hd : bs.getD 0 b40 = bs.getD 0 b40 := rfl
  generalize hx : bs.getD 0 b40 = p0 at c0 c1 c2 c3
  have HX := Lib.hid hx; clear hx hd
  obtain ⟨y0, y1, y2, y3⟩ := p0
  dsimp only at c0 c1 c2 c3
  have hne : ((n : Int) == 0) = false := by rw [beq_eq_false_iff_ne]; omega
  go_enter Try.func35, Try.ntmps35
  go_wp2
  go_loopw [5] (fun t wr => ∃ k : Nat, k ≤ n ∧ t = .int .i64 k ∧ (bs.take k).all boxB = true ∧ URel w wr ((bs.take k).foldl uni (y0, y1, y2, y3))) (fun t _ => n - (intOf t).toNat)
  case atStart =>
    refine ⟨0, Nat.zero_le _, rfl, by simp, by (repeat' (first | (with_reducible exact Below.refl _ _) | (with_reducible assumption) | (with_reducible refine Below.alloc ?_ ?_ _) | (with_reducible refine Below.drew ?_) | (with_reducible refine Below.setCell ?_ ?_ _) | (with_reducible refine below_call (by with_reducible assumption) ?_ ?_) | (first | (with_reducible exact Nat.le_refl _) | (with_reducible assumption) | omega | (simp; done) | (simp; omega)))), ?_, ?_, ?_, ?_⟩
    · simp
    · simp
    · simp [go_sem]
    · simp [go_sem]
  case round =>
    obtain ⟨k, hk, rfl, ha, hB, ⟨a0, a1, a2, a3⟩, ⟨r0, r1, r2, r3⟩, ⟨f0, f1, f2, f3⟩, g0, g1, g2, g3⟩ := hrel
    by_cases hlt : k < n
    · obtain ⟨h0, h1, h2, h3⟩ := hp k (by omega)
      rw [← hB.cell (p := ⟨b, off + k * 4, none⟩) hb] at h0
      rw [← hB.cell (p := ⟨b, off + k * 4 + 1, none⟩) hb] at h1
      rw [← hB.cell (p := ⟨b, off + k * 4 + 2, none⟩) hb] at h2
      rw [← hB.cell (p := ⟨b, off + k * 4 + 3, none⟩) hb] at h3
      have hs := all_take_snoc boxB b40 bs k (by omega)
      have hbad := badOf_at bs k (by omega) ha
      have hfold := take_foldl bs (y0, y1, y2, y3) k (by omega)
      generalize bs.getD k b40 = p at h0 h1 h2 h3 hs hbad hfold
      generalize (bs.take k).foldl uni (y0, y1, y2, y3) = acc at a0 a1 a2 a3 hfold
      obtain ⟨x0, x1, x2, x3⟩ := p
      obtain ⟨z0, z1, z2, z3⟩ := acc
      dsimp only at h0 h1 h2 h3 a0 a1 a2 a3
      have HS := Lib.hid hs; have HB := Lib.hid hbad; have HA := Lib.hid ha; have HF := Lib.hid hfold
      have hzz := hB.size
      have hbz : b < wr.heap.size := by omega
      clear hs hbad ha hp hfold
      cases hcd : (boxCode x0 x1 x2 x3 == 0)
      · have hcz := hcd
        simp at hcz
        have HC := Lib.hid hcd; clear hcd
        go_wp2_with (go_at_call 15; refine (rcheckBox_any _ _ _ _ _).mono ?_; rintro e w' ⟨rfl, hB⟩; obtain ⟨hc, hf⟩ := keep hB; have hz := hB.size; try simp at hz)
        have E1 : unionE bs = boxCode x0 x1 x2 x3 := by unfold unionE; rw [if_neg (by intro hnil; rw [hnil] at hn'; simp at hn'; omega)]; exact HB.out HC.out
        have E2 : unionV bs = b40 := by unfold unionV; rw [if_neg (by rw [E1]; simpa using HC.out)]
        rw [E2, E1]
        clear E1 E2
        refine bodyPost_ret (v := .tuple #[.agg #[.int .i64 0, .int .i64 0, .int .i64 0, .int .i64 0], .int .i64 (boxCode x0 x1 x2 x3)]) ?_ rfl ⟨rfl, by (repeat' (first | (with_reducible exact Below.refl _ _) | (with_reducible assumption) | (with_reducible refine Below.alloc ?_ ?_ _) | (with_reducible refine Below.drew ?_) | (with_reducible refine Below.setCell ?_ ?_ _) | (with_reducible refine below_call (by with_reducible assumption) ?_ ?_) | (first | (with_reducible exact Nat.le_refl _) | (with_reducible assumption) | omega | (simp; done) | (simp; omega))))⟩
        simp [*, results, Try.results35, go_sem]
      · have hcz := hcd
        simp at hcz
        have HC := Lib.hid hcd; clear hcd
        go_wp2_with (go_at_call 15; refine (rcheckBox_any _ _ _ _ _).mono ?_; rintro e w' ⟨rfl, hB⟩; obtain ⟨hc, hf⟩ := keep hB; have hz := hB.size; try simp at hz)
        go_region
        go_wp2
        go_region
        go_wp2
        go_region
        go_wp2
        go_region
        go_wp2
        go_roundw
        case rel =>
          refine ⟨k + 1, by omega, by go_num, by rw [HS.out, HA.out]; simp [boxB, HC.out], ?_⟩
          rw [HF.out]
          refine ⟨by (repeat' (first | (with_reducible exact Below.refl _ _) | (with_reducible assumption) | (with_reducible refine Below.alloc ?_ ?_ _) | (with_reducible refine Below.drew ?_) | (with_reducible refine Below.setCell ?_ ?_ _) | (with_reducible refine below_call (by with_reducible assumption) ?_ ?_) | (first | (with_reducible exact Nat.le_refl _) | (with_reducible assumption) | omega | (simp; done) | (simp; omega)))), ?_, ?_, ?_, ?_⟩
          · simp [*, go_sem, uni]
          · simp [*, go_sem]
          · simp [*, go_sem]
          · simp [*, go_sem]
        case measure => simp [intOf] <;> omega
    · have hzz := hB.size
      have E0 : bs.take k = bs := List.take_of_length_le (by omega)
      rw [E0] at ha
      have E1 : unionE bs = 0 := by unfold unionE; rw [if_neg (by intro hnil; rw [hnil] at hn'; simp at hn'; omega)]; exact badOf_all bs ha
      have E2 : unionV bs = (bs.take k).foldl uni (y0, y1, y2, y3) := by unfold unionV; rw [if_pos E1, uniAll, HX.out, E0]
      generalize (bs.take k).foldl uni (y0, y1, y2, y3) = acc at a0 a1 a2 a3 E2
      obtain ⟨z0, z1, z2, z3⟩ := acc
      dsimp only at a0 a1 a2 a3
      have H1 := Lib.hid E1; have H2 := Lib.hid E2
      clear E0 E1 E2 ha
      go_wp2
      rw [H2.out, H1.out]
      refine bodyPost_ret (v := .tuple #[.agg #[.int .i64 z0, .int .i64 z1, .int .i64 z2, .int .i64 z3], .int .i64 0]) ?_ rfl ⟨rfl, by (repeat' (first | (with_reducible exact Below.refl _ _) | (with_reducible assumption) | (with_reducible refine Below.alloc ?_ ?_ _) | (with_reducible refine Below.drew ?_) | (with_reducible refine Below.setCell ?_ ?_ _) | (with_reducible refine below_call (by with_reducible assumption) ?_ ?_) | (first | (with_reducible exact Nat.le_refl _) | (with_reducible assumption) | omega | (simp; done) | (simp; omega))))⟩
      simp [*, results, Try.results35, go_sem]
end Go.Proofs.Ytandehgdmefpaaa
