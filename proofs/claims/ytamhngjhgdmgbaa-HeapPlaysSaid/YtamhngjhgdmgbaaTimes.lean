/- pergolaref1.times: the school's product of two rows of words. -/
import Derived.Test.YtamhngjhgdmgbaaMulW
namespace Go.Proofs.Ytamhngjhgdmgbaa
open Go.RowKit Go.Deep

/-- A block that is known whole. -/
def Blk (w : World) (g : Nat) (t : TypeId) (cs : Array Value) : Prop := w.heap[g]? = some (.cells cs t (0, 0))
section
variable {w w' : World} {g : Nat} {t : TypeId} {cs : Array Value}
theorem Blk.lt (h : Blk w g t cs) : g < w.heap.size := by
  rcases Nat.lt_or_ge g w.heap.size with hlt | hge
  · exact hlt
  · unfold Blk at h; rw [Array.getElem?_eq_none hge] at h; cases h
theorem Blk.cell (h : Blk w g t cs) (i : Nat) : w.cell? ⟨g, i, none⟩ = cs[i]? := cell_of_row w g i cs t (0, 0) h
theorem Blk.frozen (h : Blk w g t cs) (i : Nat) : w.frozen? ⟨g, i, none⟩ = false := by
  unfold Blk at h
  simp [World.frozen?, h]
theorem Blk.new (w : World) (t : TypeId) (cs : Array Value) : Blk (w.alloc (.cells cs t)) w.heap.size t cs := heap_alloc_new w _
theorem Blk.set_ (h : Blk w g t cs) (i : Nat) (u : Value) : Blk (w.setCell ⟨g, i, none⟩ u) g t (cs.setIfInBounds i u) := by
  unfold Blk at h ⊢
  simp [World.setCell, Array.getElem?_modify, h]
theorem Blk.drewN (h : Blk w g t cs) (n : Nat) : Blk (w.drewN n) g t cs := h
end
/-- Numbers as a block's cells. -/
def cellsOf (l : List Int) : Array Value := (l.map (Value.int .u64)).toArray
theorem cellsOf_get (l : List Int) (i : Nat) (h : i < l.length) : (cellsOf l)[i]? = some (.int .u64 (l.getD i 0)) := by
  unfold cellsOf; rw [List.getElem?_toArray, List.getElem?_map, List.getD_eq_getElem?_getD, List.getElem?_eq_getElem h]; rfl
theorem cellsOf_set (l : List Int) (i : Nat) (x : Int) : (cellsOf l).setIfInBounds i (.int .u64 x) = cellsOf (l.set i x) := by
  unfold cellsOf; simp [List.map_set]

def TimesPost (xs ys : List Int) (w : World) (e : Ending) (w' : World) : Prop :=
  ∃ (g : Nat) (os : List Int), e = .returned (.slice (some ⟨g, 0, none⟩) (xs.length + ys.length) (xs.length + ys.length)) ∧ os.length = xs.length + ys.length ∧ NumsAt w' g os ∧ Small os ∧ val os = val xs * val ys ∧ Below w.heap.size w w' ∧ w.heap.size ≤ g ∧ g < w'.heap.size

theorem made_zero (n : Nat) : madeCells #[Value.int .u64 0] n = cellsOf (List.replicate n 0) := by
  unfold cellsOf madeCells
  rw [List.map_replicate]
  apply Array.ext
  · simp
  · intro i h1 h2
    simp [Nat.mod_one]

/-- What a round keeps: the block of the answer, its words, what they come to. -/
structure TR (w wr : World) (len z : Nat) (os : List Int) : Prop where
  below : Below w.heap.size w wr
  blk : Blk wr w.heap.size 30 (cellsOf os)
  len : os.length = len
  small : Small os
  zero : ∀ j, z ≤ j → os.getD j 0 = 0

theorem TR.set_ {w wr : World} {len z : Nat} {os : List Int} (h : TR w wr len z os) (n j z' : Nat) {x : Int} (h0 : 0 ≤ x) (h1 : x < 4294967296) (hz : z ≤ z') (hj : j < z') :
    TR w ((wr.drewN n).setCell ⟨w.heap.size, j, none⟩ (.int .u64 x)) len z' (os.set j x) := by
  have hb : Below w.heap.size w (wr.drewN n) := ⟨h.below.os, h.below.tape, h.below.output, h.below.size, h.below.block⟩
  have hk : Blk (wr.drewN n) w.heap.size 30 (cellsOf os) := h.blk
  refine ⟨hb.setCell (Nat.le_refl _) _, ?_, by rw [List.length_set]; exact h.len, small_set h.small j h0 h1, fun i hi => ?_⟩
  · rw [← cellsOf_set]; exact hk.set_ j _
  · rw [getD_set_other _ _ (by omega)]; exact h.zero i (by omega)

set_option maxHeartbeats 4000000 in
theorem times_any (ga gb n m ca cb : Nat) (xs ys : List Int) (w : World) (hn : xs.length ≤ n) (hn' : n ≤ xs.length) (hm : ys.length ≤ m) (hm' : m ≤ ys.length) (hn1 : n ≤ 100) (hm1 : m ≤ 100) (hga : ga < w.heap.size) (hgb : gb < w.heap.size)
    (hsa : Small xs) (hsb : Small ys) (hpa : NumsAt w ga xs) (hpb : NumsAt w gb ys) :
    Calls Try.prog 41 #[.slice (some ⟨ga, 0, none⟩) n ca, .slice (some ⟨gb, 0, none⟩) m cb] w (TimesPost xs ys w) := by
  have hmk := fun w => run_make_row' (P := Try.prog) 82 30 (.int .u64 0) 8 Try.underlying82 info_u64 rfl .i64 .i64 (n + m) (by omega) (by omega) w
  simp only [Int.natCast_add, made_zero] at hmk
  go_enter Try.func41, Try.ntmps41
  go_wp2
  go_loopw [6] (fun t wr => ∃ (i : Nat) (os : List Int), i ≤ n ∧ t = .int .i64 i ∧ TR w wr (n + m) (i + m) os ∧ val os = val (xs.take i) * val ys) (fun t _ => n - (intOf t).toNat)
  case atStart =>
    refine ⟨0, List.replicate (n + m) 0, Nat.zero_le _, rfl, ⟨by (repeat' (first | (with_reducible exact Below.refl _ _) | (with_reducible assumption) | (with_reducible refine Below.alloc ?_ ?_ _) | (with_reducible refine Below.drew ?_) | (with_reducible refine drewN_below ?_ _) | (with_reducible refine Below.setCell ?_ ?_ _) | (with_reducible refine below_call (by with_reducible assumption) ?_ ?_) | (first | (with_reducible exact Nat.le_refl _) | (with_reducible assumption) | omega | (simp; done) | (simp; omega)))), Blk.new _ _ _, by simp, ?_, ?_⟩, ?_⟩
    · intro j; by_cases h : j < n + m <;> simp [List.getD_eq_getElem?_getD, h]
    · intro j _; by_cases h : j < n + m <;> simp [List.getD_eq_getElem?_getD, h]
    · rw [val_zeros]; simp [val]
  case round =>
    obtain ⟨i, os, hi, rfl, hT, hv⟩ := hrel
    by_cases hlt : i < n
    · have hV := val_take xs i (by omega)
      have hai := hsa i
      have hca := hpa i (by omega)
      generalize xs.getD i 0 = a at hV hai hca
      generalize hV0 : val (xs.take i) = V at hv hV
      have HV := Lib.hid hv; have HV1 := Lib.hid hV
      clear hv hV hV0
      go_wp2
      go_loopw [7, 8] (fun u t wx => ∃ (k : Nat) (c : Int) (os : List Int), k ≤ m ∧ t = .int .i64 k ∧ u = .int .u64 c ∧ (0 ≤ c ∧ c < 4294967296) ∧ TR w wx (n + m) (i + m) os ∧ val os + c * pw (i + k) = V * val ys + a * val (ys.take k) * pw i) (fun _ t _ => m - (intOf t).toNat)
      case atStart => exact ⟨0, 0, os, Nat.zero_le _, rfl, rfl, by omega, hT, by rw [HV.out]; simp [val]⟩
      case round =>
        obtain ⟨k, c, os1, hk, rfl, rfl, hc, hT1, he⟩ := hrel
        have hB := hT1.below
        have hzz := hB.size
        have hblk := hT1.blk
        have hlen := hT1.len
        by_cases hlk : k < m
        · have hcb := hpb k (by omega)
          have hbk := hsb k
          have hW := val_take ys k (by omega)
          have ho := hT1.small (i + k)
          have hcell := hblk.cell (i + k)
          rw [cellsOf_get _ _ (by omega)] at hcell
          have hfrz := hblk.frozen (i + k)
          have hstep := fun v hv => inner_step (os := os1) (i := i) (k := k) (a := a) (b := ys.getD k 0) (c := c) (V := V * val ys) (W := val (ys.take k)) (v := v) (by omega) hv he
          rw [← hB.cell (p := ⟨ga, i, none⟩) hga] at hca
          rw [← hB.cell (p := ⟨gb, k, none⟩) hgb] at hcb
          generalize ys.getD k 0 = b at hcb hbk hW hstep
          generalize os1.getD (i + k) 0 = o at ho hcell hstep
          obtain ⟨s1, s2, s3, s4⟩ := step_bd hai hbk ho hc
          have hmask := mask32 (a * b + o + c) ⟨s3, s4⟩
          obtain ⟨c0, c1⟩ := hc
          obtain ⟨o0, o1⟩ := ho
          have hidx : (i : Int) + (k : Int) < (n : Int) + (m : Int) := by omega
          have HE := Lib.hid he; have HS := Lib.hid hstep; have HW := Lib.hid hW; have HL := Lib.hid hlen; have HT := Lib.hid hT1; have HH := Lib.hid hblk
          clear he hstep hW hlen hT1 hblk hT hpa hpb hsa hsb
          go_wp2
          go_quiet (fail)
          go_wp2
          go_roundw
          case rel =>
            refine ⟨k + 1, (a * b + o + c) / 4294967296, os1.set (i + k) ((a * b + o + c) % 4294967296), by omega, by go_num, rfl, by omega, HT.out.set_ _ _ _ (by omega) (by omega) (Nat.le_refl _) (by omega), ?_⟩
            rw [HW.out, ← Nat.add_assoc]; exact HS.out _ rfl
          case measure => simp [intOf]; omega
        · have ho := hT1.zero (i + m) (Nat.le_refl _)
          have hkm : k = m := by omega
          have hcell := hblk.cell (i + m)
          rw [cellsOf_get _ _ (by omega)] at hcell
          have hfrz := hblk.frozen (i + m)
          have hyt : ys.take k = ys := List.take_of_length_le (by omega)
          rw [hyt, hkm] at he
          have hstep := outer_step (by omega) ho he
          have HS := Lib.hid hstep; have HT := Lib.hid hT1
          obtain ⟨c0, c1⟩ := hc
          have hidx : (i : Int) + (m : Int) < (n : Int) + (m : Int) := by omega
          clear he hstep hT1 hblk hT hyt ho hpa hpb hsa hsb hkm
          go_wp2
          go_roundw
          case rel =>
            refine ⟨i + 1, os1.set (i + m) c, by omega, by go_num, HT.out.set_ 0 _ _ (by omega) (by omega) (by omega) (by omega), ?_⟩
            rw [HV1.out]; exact HS.out
          case measure => simp [intOf]; omega
    · have hin : i = n := by omega
      have hxt : xs.take i = xs := List.take_of_length_le (by omega)
      rw [hxt] at hv
      have HT := Lib.hid hT; have HV := Lib.hid hv
      clear hT hv hxt hpa hpb hsa hsb
      go_wp2
      go_ret
      have hT := HT.out
      refine ⟨w.heap.size, os, ?_, by rw [hT.len]; omega, ?_, hT.small, HV.out, hT.below, Nat.le_refl _, hT.blk.lt⟩
      · show Ending.returned (.slice _ (n + m) (n + m)) = _
        rw [show n = xs.length from by omega, show m = ys.length from by omega]
      · intro j hj
        rw [hT.blk.cell j, cellsOf_get _ _ hj]
end Go.Proofs.Ytamhngjhgdmgbaa
