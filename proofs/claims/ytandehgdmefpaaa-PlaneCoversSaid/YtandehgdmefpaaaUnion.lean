/- plane.Union: the least box that has all, or why there is none. -/
import Derived.Test.YtandehgdmefpaaaPlaneB
namespace Go.Proofs.Ytandehgdmefpaaa
open Go.RowKit

abbrev B4 := Int × Int × Int × Int
def b40 : B4 := (0, 0, 0, 0)
def uni (a b : B4) : B4 := (minV a.1 b.1, minV a.2.1 b.2.1, maxV a.2.2.1 b.2.2.1, maxV a.2.2.2 b.2.2.2)
def codeB (b : B4) : Int := boxCode b.1 b.2.1 b.2.2.1 b.2.2.2
/-- Why there is none: 1 of nothing, else what is wrong with the first that is wrong; 0: nothing is wrong. -/
def badOf : List B4 → Int
  | [] => 0
  | b :: l => if boxB b = true then badOf l else codeB b
def unionE (bs : List B4) : Int := if bs = [] then 1 else badOf bs
def uniAll (bs : List B4) : B4 := bs.foldl uni (bs.getD 0 b40)
def unionV (bs : List B4) : B4 := if unionE bs = 0 then uniAll bs else b40

/-- The boxes stand in block b from off on, one behind the other. -/
def BoxesFrom (w : World) (b off : Nat) (bs : List B4) : Prop :=
  ∀ i, i < bs.length → w.cell? ⟨b, off + i * 4, none⟩ = some (.int .i64 (bs.getD i b40).1) ∧ w.cell? ⟨b, off + i * 4 + 1, none⟩ = some (.int .i64 (bs.getD i b40).2.1) ∧
    w.cell? ⟨b, off + i * 4 + 2, none⟩ = some (.int .i64 (bs.getD i b40).2.2.1) ∧ w.cell? ⟨b, off + i * 4 + 3, none⟩ = some (.int .i64 (bs.getD i b40).2.2.2)

theorem codeB_zero (b : B4) : (codeB b == 0) = boxB b := rfl
theorem badOf_all (bs : List B4) (h : bs.all boxB = true) : badOf bs = 0 := by
  induction bs with
  | nil => rfl
  | cons b l ih => simp at h; unfold badOf; rw [if_pos h.1]; exact ih (by simpa using h.2)
theorem badOf_at (bs : List B4) : ∀ (k : Nat), k < bs.length → (bs.take k).all boxB = true → boxB (bs.getD k b40) = false → badOf bs = codeB (bs.getD k b40) := by
  induction bs with
  | nil => intro k hk; simp at hk
  | cons b l ih =>
    intro k hk ha hb
    cases k with
    | zero => simp at hb; unfold badOf; rw [if_neg (by simp [hb])]; rfl
    | succ k =>
      simp at ha hb hk
      unfold badOf
      rw [if_pos ha.1]
      simpa using ih k hk (by simpa using ha.2) (by simpa using hb)
theorem take_foldl (bs : List B4) (a : B4) (k : Nat) (h : k < bs.length) : (bs.take (k + 1)).foldl uni a = uni ((bs.take k).foldl uni a) (bs.getD k b40) := by
  rw [List.take_succ_eq_append_getElem h, List.foldl_append, List.getD_eq_getElem?_getD, List.getElem?_eq_getElem h]; rfl

/-- What a round of Union keeps. -/
def URel (w wr : World) (acc : B4) : Prop :=
  Below w.heap.size w wr ∧ (wr.cell? ⟨w.heap.size + 1, 0, none⟩ = some (.int .i64 acc.1) ∧ wr.cell? ⟨w.heap.size + 1, 1, none⟩ = some (.int .i64 acc.2.1) ∧ wr.cell? ⟨w.heap.size + 1, 2, none⟩ = some (.int .i64 acc.2.2.1) ∧ wr.cell? ⟨w.heap.size + 1, 3, none⟩ = some (.int .i64 acc.2.2.2)) ∧
  (wr.cell? ⟨w.heap.size, 0, none⟩ = some (.int .i64 0) ∧ wr.cell? ⟨w.heap.size, 1, none⟩ = some (.int .i64 0) ∧ wr.cell? ⟨w.heap.size, 2, none⟩ = some (.int .i64 0) ∧ wr.cell? ⟨w.heap.size, 3, none⟩ = some (.int .i64 0)) ∧
  (wr.frozen? ⟨w.heap.size, 0, none⟩ = false ∧ wr.frozen? ⟨w.heap.size, 1, none⟩ = false ∧ wr.frozen? ⟨w.heap.size, 2, none⟩ = false ∧ wr.frozen? ⟨w.heap.size, 3, none⟩ = false) ∧ (wr.frozen? ⟨w.heap.size + 1, 0, none⟩ = false ∧ wr.frozen? ⟨w.heap.size + 1, 1, none⟩ = false ∧ wr.frozen? ⟨w.heap.size + 1, 2, none⟩ = false ∧ wr.frozen? ⟨w.heap.size + 1, 3, none⟩ = false)

set_option maxHeartbeats 1000000 in
theorem union_any (b off n cap : Nat) (bs : List B4) (w : World) (hn : bs.length ≤ n) (hn' : n ≤ bs.length) (hm : n ≤ 1000000000000) (h0 : 0 < n) (hb : b < w.heap.size) (hp : BoxesFrom w b off bs) :
    Calls Try.prog 24 #[.slice (some ⟨b, off, none⟩) n cap] w fun e w' => e = .returned (.tuple #[.agg #[.int .i64 ((unionV bs).1), .int .i64 ((unionV bs).2.1), .int .i64 ((unionV bs).2.2.1), .int .i64 ((unionV bs).2.2.2)], errV (unionE bs)]) ∧ Below w.heap.size w w' := by
  have mn : ∀ x y : Int, (if y < x then y else x) = minV x y := fun _ _ => rfl
  have mx : ∀ x y : Int, (if x < y then y else x) = maxV x y := fun _ _ => rfl
  have c0 := hp 0 (by omega)
  rw [Nat.zero_mul, Nat.add_zero] at c0
  obtain ⟨c0, c1, c2, c3⟩ := c0
  have hd : bs.getD 0 b40 = bs.getD 0 b40 := rfl
  generalize hx : bs.getD 0 b40 = p0 at c0 c1 c2 c3
  have HX := Lib.hid hx; clear hx hd
  obtain ⟨y0, y1, y2, y3⟩ := p0
  dsimp only at c0 c1 c2 c3
  have hne : ((n : Int) == 0) = false := by rw [beq_eq_false_iff_ne]; omega
  go_enter Try.func24, Try.ntmps24
  go_wp2
  go_loopw [18] (fun t wr => ∃ k : Nat, k ≤ n ∧ t = .int .i64 k ∧ (bs.take k).all boxB = true ∧ URel w wr ((bs.take k).foldl uni (y0, y1, y2, y3))) (fun t _ => n - (intOf t).toNat)
  case atStart =>
    refine ⟨0, Nat.zero_le _, rfl, by simp, by (repeat' (first | (with_reducible exact Below.refl _ _) | (with_reducible assumption) | (with_reducible refine Below.alloc ?_ ?_ _) | (with_reducible refine Below.drew ?_) | (with_reducible refine Below.setCell ?_ ?_ _) | (with_reducible refine below_call (by with_reducible assumption) ?_ ?_) | (first | (with_reducible exact Nat.le_refl _) | (with_reducible assumption) | omega | (simp; done) | (simp; omega)))), ?_, ?_, ?_, ?_⟩
    · simp
    · simp
    · simp [go_sem]
    · simp [go_sem]
  case round =>
    obtain ⟨k, hk, rfl, ha, hB, ⟨a0, a1, a2, a3⟩, ⟨r0, r1, r2, r3⟩, ⟨f0, f1, f2, f3⟩, g0, g1, g2, g3⟩ := hrel
    by_cases hlt : k < n
    · obtain ⟨h0, h1, h2, h3⟩ := hp k (by omega)
      rw [← hB.cell (p := ⟨b, off + k * 4, none⟩) hb] at h0
      rw [← hB.cell (p := ⟨b, off + k * 4 + 1, none⟩) hb] at h1
      rw [← hB.cell (p := ⟨b, off + k * 4 + 2, none⟩) hb] at h2
      rw [← hB.cell (p := ⟨b, off + k * 4 + 3, none⟩) hb] at h3
      have hs := all_take_snoc boxB b40 bs k (by omega)
      have hbad := badOf_at bs k (by omega) ha
      have hfold := take_foldl bs (y0, y1, y2, y3) k (by omega)
      generalize bs.getD k b40 = p at h0 h1 h2 h3 hs hbad hfold
      generalize (bs.take k).foldl uni (y0, y1, y2, y3) = acc at a0 a1 a2 a3 hfold
      obtain ⟨x0, x1, x2, x3⟩ := p
      obtain ⟨z0, z1, z2, z3⟩ := acc
      dsimp only at h0 h1 h2 h3 a0 a1 a2 a3
      have HS := Lib.hid hs; have HB := Lib.hid hbad; have HA := Lib.hid ha; have HF := Lib.hid hfold
      have hzz := hB.size
      have hbz : b < wr.heap.size := by omega
      clear hs hbad ha hp hfold
      cases hcd : (boxCode x0 x1 x2 x3 == 0)
      · have hv := errV_ne hcd
        have HC := Lib.hid hcd; clear hcd
        go_wp2_with (go_at_call 36; refine (checkBox_any _ _ _ _ _).mono ?_; rintro e w' ⟨rfl, hB⟩; obtain ⟨hc, hf⟩ := keep hB; have hz := hB.size; try simp at hz)
        have E1 : unionE bs = boxCode x0 x1 x2 x3 := by unfold unionE; rw [if_neg (by intro hnil; rw [hnil] at hn'; simp at hn'; omega)]; exact HB.out HC.out
        have E2 : unionV bs = b40 := by unfold unionV; rw [if_neg (by rw [E1]; simpa using HC.out)]
        rw [E2, E1, hv]
        clear E1 E2
        refine bodyPost_ret (v := .tuple #[.agg #[.int .i64 0, .int .i64 0, .int .i64 0, .int .i64 0], .iface 71 (.int .i64 (boxCode x0 x1 x2 x3))]) ?_ rfl ⟨rfl, by (repeat' (first | (with_reducible exact Below.refl _ _) | (with_reducible assumption) | (with_reducible refine Below.alloc ?_ ?_ _) | (with_reducible refine Below.drew ?_) | (with_reducible refine Below.setCell ?_ ?_ _) | (with_reducible refine below_call (by with_reducible assumption) ?_ ?_) | (first | (with_reducible exact Nat.le_refl _) | (with_reducible assumption) | omega | (simp; done) | (simp; omega))))⟩
        simp [*, results, Try.results24, go_sem]
      · have hv := errV_zero hcd
        have HC := Lib.hid hcd; clear hcd
        go_wp2_with (go_at_call 36; refine (checkBox_any _ _ _ _ _).mono ?_; rintro e w' ⟨rfl, hB⟩; obtain ⟨hc, hf⟩ := keep hB; have hz := hB.size; try simp at hz)
        go_roundw
        case rel =>
          refine ⟨k + 1, by omega, by go_num, by rw [HS.out, HA.out]; simp [boxB, HC.out], ?_⟩
          rw [HF.out]
          refine ⟨by (repeat' (first | (with_reducible exact Below.refl _ _) | (with_reducible assumption) | (with_reducible refine Below.alloc ?_ ?_ _) | (with_reducible refine Below.drew ?_) | (with_reducible refine Below.setCell ?_ ?_ _) | (with_reducible refine below_call (by with_reducible assumption) ?_ ?_) | (first | (with_reducible exact Nat.le_refl _) | (with_reducible assumption) | omega | (simp; done) | (simp; omega)))), ?_, ?_, ?_, ?_⟩
          · simp [*, go_sem, uni]
          · simp [*, go_sem]
          · simp [*, go_sem]
          · simp [*, go_sem]
        case measure => simp [intOf]; omega
    · have hzz := hB.size
      have E0 : bs.take k = bs := List.take_of_length_le (by omega)
      rw [E0] at ha
      have E1 : unionE bs = 0 := by unfold unionE; rw [if_neg (by intro hnil; rw [hnil] at hn'; simp at hn'; omega)]; exact badOf_all bs ha
      have E2 : unionV bs = (bs.take k).foldl uni (y0, y1, y2, y3) := by unfold unionV; rw [if_pos E1, uniAll, HX.out, E0]
      generalize (bs.take k).foldl uni (y0, y1, y2, y3) = acc at a0 a1 a2 a3 E2
      obtain ⟨z0, z1, z2, z3⟩ := acc
      dsimp only at a0 a1 a2 a3
      have H1 := Lib.hid E1; have H2 := Lib.hid E2
      clear E0 E1 E2 ha
      go_wp2
      rw [H2.out, H1.out, show errV 0 = .nilIface from rfl]
      refine bodyPost_ret (v := .tuple #[.agg #[.int .i64 z0, .int .i64 z1, .int .i64 z2, .int .i64 z3], .nilIface]) ?_ rfl ⟨rfl, by (repeat' (first | (with_reducible exact Below.refl _ _) | (with_reducible assumption) | (with_reducible refine Below.alloc ?_ ?_ _) | (with_reducible refine Below.drew ?_) | (with_reducible refine Below.setCell ?_ ?_ _) | (with_reducible refine below_call (by with_reducible assumption) ?_ ?_) | (first | (with_reducible exact Nat.le_refl _) | (with_reducible assumption) | omega | (simp; done) | (simp; omega))))⟩
      simp [*, results, Try.results24, go_sem]
end Go.Proofs.Ytandehgdmefpaaa
