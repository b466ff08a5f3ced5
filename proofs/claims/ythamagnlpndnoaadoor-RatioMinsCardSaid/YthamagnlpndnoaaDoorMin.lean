/- Package ratio: Min is the least of a list of fractions; such a list as an argument. -/
import Derived.Test.YthamagnlpndnoaaDoorRatioC
import Derived.Test.YthamagnlpndnoaaDoorOpenNear
import Derived.Test.YthamagnlpndnoaaDoorAppend
import Derived.Test.YthamagnlpndnoaaDoorDiv2
namespace Go.Proofs.YthamagnlpndnoaaDoor
open Go.ChangeShapes Go.WideShapes Go.ChangeAt Go.RowKit

abbrev D3 := Int × Int × Int
def d30 : D3 := (0, 0, 0)
def WordD (d : D3) : Prop := Word d.1 ∧ Word d.2.1 ∧ Word d.2.2
def cmpT (a b : D3) : Int := cmpD a.1 a.2.1 a.2.2 b.1 b.2.1 b.2.2
def minD (m d : D3) : D3 := if cmpT d m < 0 then d else m
/-- The least, the first of alike ones; of nothing none. -/
def minL : List D3 → D3
  | [] => d30
  | d :: r => r.foldl minD d
theorem minL_take (l : List D3) (k : Nat) (h : k < l.length) : minL (l.take (k + 1)) = if k = 0 then l.getD k d30 else minD (minL (l.take k)) (l.getD k d30) := by
  cases l with
  | nil => simp at h
  | cons d r =>
    cases k with
    | zero => simp [minL]
    | succ k =>
      rw [if_neg (by omega)]
      simp only [List.take_succ_cons, minL]
      rw [List.take_succ_eq_append_getElem (by simpa using h), List.foldl_append]
      simp at h
      simp [List.getD_eq_getElem?_getD, h]
theorem minD_word {a b : D3} (ha : WordD a) (hb : WordD b) : WordD (minD a b) := by unfold minD; split <;> assumption
theorem minL_word {l : List D3} (h : ∀ d ∈ l, WordD d) : WordD (minL l) := by
  cases l with
  | nil => exact ⟨⟨by decide, by decide⟩, ⟨by decide, by decide⟩, ⟨by decide, by decide⟩⟩
  | cons d r =>
    unfold minL
    have hd := h d List.mem_cons_self
    have hr : ∀ x ∈ r, WordD x := fun x hx => h x (List.mem_cons_of_mem _ hx)
    clear h
    induction r generalizing d with
    | nil => exact hd
    | cons x r ih => exact ih (minD d x) (minD_word hd (hr x List.mem_cons_self)) (fun y hy => hr y (List.mem_cons_of_mem _ hy))

/-- The fractions stand in block b from off on, one behind the other. -/
def DistsFrom (w : World) (b off : Nat) (ds : List D3) : Prop :=
  ∀ i, i < ds.length → w.cell? ⟨b, off + i * 3, none⟩ = some (.int .u64 (ds.getD i d30).1) ∧ w.cell? ⟨b, off + i * 3 + 1, none⟩ = some (.int .u64 (ds.getD i d30).2.1) ∧ w.cell? ⟨b, off + i * 3 + 2, none⟩ = some (.int .u64 (ds.getD i d30).2.2)
/-- The value is a slice of these fractions. -/
structure IsDists (w : World) (v : Value) (ds : List D3) : Prop where
  form : ∃ a cap, v = .slice a ds.length cap ∧ (0 < ds.length → ∃ b off, a = some ⟨b, off, none⟩ ∧ b < w.heap.size ∧ DistsFrom w b off ds)
  word : ∀ d ∈ ds, WordD d
theorem IsDists.keep {w w' : World} {v : Value} {ds : List D3} (h : IsDists w v ds) (hb : Below w.heap.size w w') : IsDists w' v ds := by
  obtain ⟨⟨a, cap, hv, hf⟩, hw⟩ := h
  refine ⟨⟨a, cap, hv, fun hp => ?_⟩, hw⟩
  obtain ⟨b, off, ha, hl, hc⟩ := hf hp
  refine ⟨b, off, ha, Nat.lt_of_lt_of_le hl hb.size, fun i hi => ?_⟩
  rw [hb.cell (p := ⟨b, off + i * 3, none⟩) hl, hb.cell (p := ⟨b, off + i * 3 + 1, none⟩) hl, hb.cell (p := ⟨b, off + i * 3 + 2, none⟩) hl]
  exact hc i hi
theorem getD_mem {l : List D3} {i : Nat} (h : i < l.length) : l.getD i d30 ∈ l := by
  rw [List.getD_eq_getElem?_getD, List.getElem?_eq_getElem h]; exact List.getElem_mem _
theorem mem_take' {l : List D3} {i : Nat} {d : D3} (h : d ∈ l.take i) : d ∈ l := List.mem_of_mem_take h

set_option maxHeartbeats 4000000 in
theorem min_any (v : Value) (ds : List D3) (w : World) (h : IsDists w v ds) (hm : ds.length ≤ 1000000000000) :
    Calls Tryd.prog 21 #[v] w fun e w' => e = .returned (.agg #[.int .u64 ((minL ds).1), .int .u64 ((minL ds).2.1), .int .u64 ((minL ds).2.2)]) ∧ Below w.heap.size w w' := by
  obtain ⟨⟨a, cap, rfl, hf⟩, hword⟩ := h
  obtain ⟨n, hn⟩ : ∃ n, n = ds.length := ⟨_, rfl⟩
  rw [← hn] at hm hf ⊢
  have HN := Lib.hid hn
  clear hn
  go_enter Tryd.func21, Tryd.ntmps21
  go_wp2
  go_loopw [7] (fun t wr => ∃ i : Nat, i ≤ n ∧ t = .int .i64 i ∧ Blk wr w.heap.size 24 #[.int .u64 (minL (ds.take i)).1, .int .u64 (minL (ds.take i)).2.1, .int .u64 (minL (ds.take i)).2.2] ∧ Below w.heap.size w wr) (fun t _ => n - (intOf t).toNat)
  case atStart => exact ⟨0, Nat.zero_le _, rfl, Blk.new' _ _ (by first | rfl | simp), by (repeat' (first | (with_reducible exact Below.refl _ _) | (with_reducible assumption) | (with_reducible refine Below.alloc ?_ ?_ _) | (with_reducible refine Below.drew ?_) | (with_reducible refine drewN_below ?_ _) | (with_reducible refine Below.setCell ?_ ?_ _) | (with_reducible refine below_call (by with_reducible assumption) ?_ ?_) | (first | (with_reducible exact Nat.le_refl _) | (with_reducible assumption) | omega | (simp; done) | (simp; omega))))⟩
  case round =>
    obtain ⟨i, hi, rfl, hblk, hB⟩ := hrel
    have hzz := hB.size
    by_cases hlt : i < n
    · have hil : i < ds.length := by have := HN.out; omega
      obtain ⟨b, off, rfl, hbl, hc⟩ := hf (by omega)
      obtain ⟨c0, c1, c2⟩ := hc i hil
      rw [← hB.cell (p := ⟨b, off + i * 3, none⟩) hbl] at c0
      rw [← hB.cell (p := ⟨b, off + i * 3 + 1, none⟩) hbl] at c1
      rw [← hB.cell (p := ⟨b, off + i * 3 + 2, none⟩) hbl] at c2
      have hdw := hword _ (getD_mem hil)
      have hmw := minL_word (l := ds.take i) (fun d hd => hword d (mem_take' hd))
      have hst := minL_take ds i hil
      generalize hD : ds.getD i d30 = D at *
      generalize hM : minL (ds.take i) = M at *
      obtain ⟨d0, d1, d2⟩ := D
      obtain ⟨m0, m1, m2⟩ := M
      obtain ⟨w0, w1, w2⟩ := hdw
      obtain ⟨v0, v1, v2⟩ := hmw
      have HC := fun w => rcmp_any d0 d1 d2 m0 m1 m2 w0 w1 w2 v0 v1 v2 w
      have k0 := hblk.cell 0
      have k1 := hblk.cell 1
      have k2 := hblk.cell 2
      have g0 := hblk.frozen 0
      have g1 := hblk.frozen 1
      have g2 := hblk.frozen 2
      simp at k0 k1 k2
      simp only [minD, cmpT] at hst
      have hbz : b < wr.heap.size := by omega
      have HB := Lib.hid hblk
      clear hblk hf hc hword hD hM w0 w1 w2 v0 v1 v2
      by_cases hi0 : i = 0
      · rw [if_pos hi0] at hst
        subst hi0
        rw [Nat.zero_mul, Nat.add_zero] at c0 c1 c2
        have HS := Lib.hid hst
        clear hst HC
        go_wp2
        go_roundw
        case rel =>
          refine ⟨0 + 1, by omega, by go_num, ?_, by (repeat' (first | (with_reducible exact Below.refl _ _) | (with_reducible assumption) | (with_reducible refine Below.alloc ?_ ?_ _) | (with_reducible refine Below.drew ?_) | (with_reducible refine drewN_below ?_ _) | (with_reducible refine Below.setCell ?_ ?_ _) | (with_reducible refine below_call (by with_reducible assumption) ?_ ?_) | (first | (with_reducible exact Nat.le_refl _) | (with_reducible assumption) | omega | (simp; done) | (simp; omega))))⟩
          rw [HS.out]
          exact (((HB.out.alloc _).set_ 0 _).set_ 1 _).set_ 2 _
        case measure => simp [intOf]; omega
      · rw [if_neg hi0] at hst
        have hib : ((i : Int) == 0) = false := beq_eq_false_iff_ne.2 (by omega)
        by_cases hk : cmpD d0 d1 d2 m0 m1 m2 < 0
        · have HS := Lib.hid (hst.trans (if_pos hk))
          clear hst
          generalize cmpD d0 d1 d2 m0 m1 m2 = K at *
          go_wp2_with fail
          refine (HC _).mono ?_; rintro e w1 ⟨rfl, hB1⟩; obtain ⟨hc1, hf1⟩ := keep hB1; have hz1 := hB1.size; try simp at hz1
          go_wp2
          go_roundw
          case rel =>
            refine ⟨i + 1, by omega, by go_num, ?_, by (repeat' (first | (with_reducible exact Below.refl _ _) | (with_reducible assumption) | (with_reducible refine Below.alloc ?_ ?_ _) | (with_reducible refine Below.drew ?_) | (with_reducible refine drewN_below ?_ _) | (with_reducible refine Below.setCell ?_ ?_ _) | (with_reducible refine below_call (by with_reducible assumption) ?_ ?_) | (first | (with_reducible exact Nat.le_refl _) | (with_reducible assumption) | omega | (simp; done) | (simp; omega))))⟩
            rw [HS.out]
            exact (((blk_grow (HB.out.alloc _) hB1).set_ 0 _).set_ 1 _).set_ 2 _
          case measure => simp [intOf]; omega
        · have HS := Lib.hid (hst.trans (if_neg hk))
          clear hst
          generalize cmpD d0 d1 d2 m0 m1 m2 = K at *
          go_wp2_with fail
          refine (HC _).mono ?_; rintro e w1 ⟨rfl, hB1⟩; obtain ⟨hc1, hf1⟩ := keep hB1; have hz1 := hB1.size; try simp at hz1
          go_wp2
          go_roundw
          case rel =>
            refine ⟨i + 1, by omega, by go_num, ?_, by (repeat' (first | (with_reducible exact Below.refl _ _) | (with_reducible assumption) | (with_reducible refine Below.alloc ?_ ?_ _) | (with_reducible refine Below.drew ?_) | (with_reducible refine drewN_below ?_ _) | (with_reducible refine Below.setCell ?_ ?_ _) | (with_reducible refine below_call (by with_reducible assumption) ?_ ?_) | (first | (with_reducible exact Nat.le_refl _) | (with_reducible assumption) | omega | (simp; done) | (simp; omega))))⟩
            rw [HS.out]
            exact blk_grow (HB.out.alloc _) hB1
          case measure => simp [intOf]; omega
    · have htk : ds.take i = ds := List.take_of_length_le (by have := HN.out; omega)
      rw [htk] at hblk
      have k0 := hblk.cell 0
      have k1 := hblk.cell 1
      have k2 := hblk.cell 2
      have g0 := hblk.frozen 0
      have g1 := hblk.frozen 1
      have g2 := hblk.frozen 2
      simp at k0 k1 k2
      clear hblk htk hf hword
      go_wp2
      exact bodyPost_ret (v := .agg #[.int .u64 (minL ds).1, .int .u64 (minL ds).2.1, .int .u64 (minL ds).2.2]) (by simp [*, results, Tryd.results21, go_sem]) rfl ⟨rfl, by (repeat' (first | (with_reducible exact Below.refl _ _) | (with_reducible assumption) | (with_reducible refine Below.alloc ?_ ?_ _) | (with_reducible refine Below.drew ?_) | (with_reducible refine drewN_below ?_ _) | (with_reducible refine Below.setCell ?_ ?_ _) | (with_reducible refine below_call (by with_reducible assumption) ?_ ?_) | (first | (with_reducible exact Nat.le_refl _) | (with_reducible assumption) | omega | (simp; done) | (simp; omega))))⟩

section
variable {H : Type} {enc : TypeId × Value → H} {w : World}
theorem add_at {b off i j : Nat} : ((⟨b, off, none⟩ : Addr).add i).add j = ⟨b, off + i + j, none⟩ := by
  unfold Addr.add; by_cases hi : i = 0 <;> by_cases hj : j = 0 <;> simp [hi, hj]
set_option maxRecDepth 100000 in
theorem open_dists {v : Value} {d : DataW H} {p : List MemPlace} {r : Reach} {b0 : Nat} (hv : Value.okWide Tryd.prog w r b0 47 v) (h : DataW.Trod enc Tryd.prog w 0 (fun _ => true) true 47 v d p) :
    ∃ ds, IsDists w v ds := by
  obtain ⟨a, len, cap, rfl⟩ := okWide_slice Tryd.underlying47 hv
  obtain ⟨fuel, h⟩ := h
  have h' : DataW.trod enc Tryd.prog w 0 (fun _ => true) true fuel 47 [.slice a len cap] = some (d, p) := h
  have h4 : Tryd.prog.cellsOf 24 = 3 := by kernel_rfl
  rcases Go.Deep.open_slice Tryd.underlying47 h' with ⟨h0, _⟩ | ⟨a, len, cap, m, n, D, Pl, h0, _, hl, _, hm, _, hx⟩
  · simp at h0
    obtain ⟨rfl, rfl, rfl⟩ := h0
    exact ⟨[], ⟨none, 0, rfl, fun h => absurd h (by decide)⟩, fun _ h => by cases h⟩
  · simp at h0 hm
    obtain ⟨rfl, rfl, rfl⟩ := h0
    rcases Nat.eq_zero_or_pos len with rfl | hpos
    · exact ⟨[], ⟨_, _, rfl, fun h => absurd h (by decide)⟩, fun _ h => by cases h⟩
    · have hq : ∀ i, i < len → ∃ q : D3, (w.cell? (a.add (i * 3)) = some (.int .u64 q.1) ∧ w.cell? ((a.add (i * 3)).add 1) = some (.int .u64 q.2.1) ∧ w.cell? ((a.add (i * 3)).add 2) = some (.int .u64 q.2.2)) ∧ WordD q := by
        intro i hi
        obtain ⟨cs', h1, h2⟩ := hx i (by omega)
        rw [h4] at h1
        obtain ⟨_, _, hcell⟩ := World.cells?_some h1
        obtain ⟨x, y, z, rfl, wx, wy, wz⟩ := rd_dist ⟨n, _, h2⟩
        have e0 := hcell 0 (by omega)
        have e1 := hcell 1 (by omega)
        have e2 := hcell 2 (by omega)
        exact ⟨(x, y, z), ⟨by simpa [Addr.add] using e0, by simpa using e1, by simpa using e2⟩, wx, wy, wz⟩
      obtain ⟨q, hq⟩ := Go.Deep.choose_lt (α := D3) hq
      obtain ⟨b, off, spot⟩ := a
      have hs : spot = none := by
        have h0 := (hq 0 hpos).1.1
        simp [Addr.add, World.cell?] at h0
        split at h0
        · cases spot with
          | none => rfl
          | some s => simp at h0
        · cases h0
      subst hs
      refine ⟨(List.range len).map q, ⟨some ⟨b, off, none⟩, cap, by simp, fun _ => ⟨b, off, rfl, ?_, ?_⟩⟩, ?_⟩
      · have h0 := (hq 0 hpos).1.1
        exact lt_of_cell (b := b) (o := off) (by simpa [Addr.add] using h0)
      · intro i hi
        simp at hi
        have hg : ((List.range len).map q).getD i d30 = q i := by simp [List.getD_eq_getElem?_getD, hi]
        rw [hg]
        obtain ⟨⟨k0, k1, k2⟩, _⟩ := hq i hi
        have ea : (⟨b, off, none⟩ : Addr).add (i * 3) = ⟨b, off + i * 3, none⟩ := by unfold Addr.add; split <;> simp_all
        rw [ea] at k0
        rw [add_at] at k1 k2
        exact ⟨k0, k1, k2⟩
      · intro d hd
        simp at hd
        obtain ⟨i, hi, rfl⟩ := hd
        exact (hq i hi).2
end
end Go.Proofs.YthamagnlpndnoaaDoor
