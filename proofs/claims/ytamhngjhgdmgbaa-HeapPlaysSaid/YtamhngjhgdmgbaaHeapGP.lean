/- pergolaref14.Heap: Pop. -/
import Derived.Test.YtamhngjhgdmgbaaHeapG
import Derived.Maps.AppendAt
namespace Go.Proofs.Ytamhngjhgdmgbaa
open Go.RowKit

theorem info_ent14 : (Try.prog.info? 36).map (fun i => (i.zero, i.size, i.bytes)) = some (some (.agg #[.int .i64 0, .int .u64 0, .int .u64 0, .int .u64 0, .bool false, .int .i64 0]), 6, 48) := by kernel_rfl

/-- What append makes of an own row of entries and entries behind it. -/
def JoinedE (B : Nat) (W : World) (v0 : Value) (l : List Ent) (v' : Value) (w' : World) : Prop :=
  w'.ownsRow B 36 6 v' l.length (entRow l) ∧ W.grownBy w' v0.ownBlock ∧ (v'.ownBlock = v0.ownBlock ∨ v'.ownBlock = some W.heap.size)
theorem run_append_ents (W : World) (ty : TypeId) (B : Nat) (v : Value) (l r : List Ent) (ad : Addr) (m c : Nat) (hm : m = r.length) (hv : W.ownsRow B 36 6 v l.length (entRow l)) (hsrc : ∀ j u, (entRow r)[j]? = some u → W.cell? (ad.add j) = some u) (hlen : l.length + r.length ≤ 1000) (hB : B ≤ W.heap.size) :
    ∃ v' w', (Builtin.append_ #[27, 27] ty #[v, .slice (some ad) m c]).run Try.prog W = .ok v' w' ∧ JoinedE B W v (l ++ r) v' w' := by
  subst hm
  obtain ⟨i, hi0, hz0, hz1, hz2⟩ := info_parts info_ent14
  obtain ⟨v', w', h1, h2, h3, _, h5⟩ := run_append_own_at (P := Try.prog) W B 27 ty 36 i (.agg #[.int .i64 0, .int .u64 0, .int .u64 0, .int .u64 0, .bool false, .int .i64 0]) 6 48 Try.underlying27 hi0 hz0 hz1 hz2 rfl (by decide) v l.length (entRow l) hv ad r.length c (entRow r) (entRow_length r) hsrc (fun u hu => entRow_one hu) (by unfold maxLen; omega) (by omega) hB
  refine ⟨v', w', h1, ?_, h3, h5⟩
  rw [List.length_append, entRow_append]
  exact h2

theorem addg (g o j : Nat) : (⟨g, o, none⟩ : Addr).add j = ⟨g, o + j, none⟩ := by unfold Addr.add; by_cases h : j = 0 <;> simp [h]
theorem slice_form {w : World} {base : Nat} {e : TypeId} {size : Nat} {v : Value} {n : Nat} {xs : List Value} (h : w.ownsRow base e size v n xs) : ∃ a n' c, v = .slice a n' c := by
  rcases h.2 with ⟨rfl, _⟩ | ⟨g, cap, cur, rfl, _⟩
  · exact ⟨_, _, _, rfl⟩
  · exact ⟨_, _, _, rfl⟩

set_option maxHeartbeats 1000000 in
theorem rPop_none (B m : Nat) (v : Value) (w : World) (R : IsRef w B m v []) :
    Calls Try.prog 13 #[.pointer (some ⟨m, 0, none⟩)] w fun e w' => e = .returned (.tuple #[.agg #[.int .i64 0, .int .u64 0, .int .u64 0, .int .u64 0, .bool false, .int .i64 0], .bool false]) ∧ Below w.heap.size w w' := by
  obtain ⟨a, cap, hv⟩ := R.form
  have hl := R.blk.lt
  have k0 := R.blk.cell 0
  rw [hv] at k0
  simp at k0
  clear R hv
  go_enter Try.func13, Try.ntmps13
  go_wp2
  exact bodyPost_ret (v := .tuple #[.agg #[.int .i64 0, .int .u64 0, .int .u64 0, .int .u64 0, .bool false, .int .i64 0], .bool false]) (by simp [*, results, Try.results13, go_sem]) rfl ⟨rfl, by (repeat' (first | (with_reducible exact Below.refl _ _) | (with_reducible assumption) | (with_reducible refine Below.alloc ?_ ?_ _) | (with_reducible refine Below.drew ?_) | (with_reducible refine drewN_below ?_ _) | (with_reducible refine Below.setCell ?_ ?_ _) | (with_reducible refine below_call (by with_reducible assumption) ?_ ?_) | (first | (with_reducible exact Nat.le_refl _) | (with_reducible assumption) | omega | (simp; done) | (simp; omega))))⟩

set_option maxHeartbeats 4000000 in
theorem rPop_some (B m : Nat) (v : Value) (es : List Ent) (w : World) (R : IsRef w B m v es) (hp : 0 < es.length) (hm : es.length ≤ 1000) (x : Ent) (hx : es.getD (topF es es.length) e0 = x) (k : Nat) (hk : topF es es.length = k) :
    Calls Try.prog 13 #[.pointer (some ⟨m, 0, none⟩)] w fun e w' => e = .returned (.tuple #[.agg #[.int .i64 x.id, .int .u64 x.hi, .int .u64 x.lo, .int .u64 x.den, .bool x.item, .int .i64 x.node], .bool true]) ∧
      ∃ v', IsRef w' B m v' (es.eraseIdx k) ∧ Kept B m v w w' ∧ Own v v' w := by
  have hl := R.blk.lt
  have HT := fun (z : World) (hz : Below w.heap.size w z) => rtop_any B m v es z (R.grow hz) hm
  obtain ⟨g, cap, hv, hBg, hg, hne, hcap, hc⟩ := R.at_ hp
  have k0 := R.blk.cell 0
  have hq := topF_le es es.length es.length (Nat.le_refl _) hp
  have hcc := hc _ hq
  rw [hx] at hcc
  clear hx
  rw [hk] at HT hq hcc
  rw [hv] at k0
  simp at k0
  have HR := Lib.hid R
  have HC := Lib.hid hcc
  have HV := Lib.hid hv
  have HCA := Lib.hid hc
  clear R hc hcc hk
  subst hv
  obtain ⟨n, hn⟩ : ∃ n, es.length = n := ⟨_, rfl⟩
  have HN := Lib.hid hn
  rw [hn] at hp hm hq k0 hcap
  have h0 : ((n : Int) == 0) = false := beq_eq_false_iff_ne.2 (by omega)
  have hkn : (k : Int) < (n : Int) := by omega
  clear hn
  go_enter Try.func13, Try.ntmps13
  go_upto_region 4 with (go_at_call 22; refine (HT _ (by (repeat' (first | (with_reducible exact Below.refl _ _) | (with_reducible assumption) | (with_reducible refine Below.alloc ?_ ?_ _) | (with_reducible refine Below.drew ?_) | (with_reducible refine drewN_below ?_ _) | (with_reducible refine Below.setCell ?_ ?_ _) | (with_reducible refine below_call (by with_reducible assumption) ?_ ?_) | (first | (with_reducible exact Nat.le_refl _) | (with_reducible assumption) | omega | (simp; done) | (simp; omega)))))).mono ?_; rintro e w' ⟨rfl, hB⟩; have hz := hB.size; try simp at hz)
  obtain ⟨rr, hrr⟩ : ∃ rr, rr = w.heap.size := ⟨_, rfl⟩
  have bW : Below w.heap.size w w' := by (repeat' (first | (with_reducible exact Below.refl _ _) | (with_reducible assumption) | (with_reducible refine Below.alloc ?_ ?_ _) | (with_reducible refine Below.drew ?_) | (with_reducible refine drewN_below ?_ _) | (with_reducible refine Below.setCell ?_ ?_ _) | (with_reducible refine below_call (by with_reducible assumption) ?_ ?_) | (first | (with_reducible exact Nat.le_refl _) | (with_reducible assumption) | omega | (simp; done) | (simp; omega))))
  have bR : Blk w' rr 36 #[Value.int IntKind.i64 0, Value.int IntKind.u64 0, Value.int IntKind.u64 0, Value.int IntKind.u64 0, Value.bool false, Value.int IntKind.i64 0] := blk_grow (Blk.new' _ _ hrr) hB
  rw [← hrr]
  have s0 := (bW.cell (p := ⟨m, 0, none⟩) hl).trans k0
  have ci := HC.out
  have c0 := (bW.cell (p := ⟨g, k * 6 + 0, none⟩) hg).trans (ci 0 _ rfl)
  have c1 := (bW.cell (p := ⟨g, k * 6 + 1, none⟩) hg).trans (ci 1 _ rfl)
  have c2 := (bW.cell (p := ⟨g, k * 6 + 2, none⟩) hg).trans (ci 2 _ rfl)
  have c3 := (bW.cell (p := ⟨g, k * 6 + 3, none⟩) hg).trans (ci 3 _ rfl)
  have c4 := (bW.cell (p := ⟨g, k * 6 + 4, none⟩) hg).trans (ci 4 _ rfl)
  have c5 := (bW.cell (p := ⟨g, k * 6 + 5, none⟩) hg).trans (ci 5 _ rfl)
  simp only [Nat.add_zero] at c0
  have HBR := Lib.hid bR
  have HBW := Lib.hid bW
  clear ci HT hB k0 bR bW
  go_upto_region 6 with fail
  obtain ⟨W2, hW2⟩ : ∃ W2, W2 = w'.alloc (.cells #[Value.int IntKind.i64 x.id, Value.int IntKind.u64 x.hi, Value.int IntKind.u64 x.lo, Value.int IntKind.u64 x.den, Value.bool x.item, Value.int IntKind.i64 x.node] 36) := ⟨_, rfl⟩
  obtain ⟨F, hF⟩ : ∃ F, F = w'.heap.size := ⟨_, rfl⟩
  rw [← hW2, ← hF]
  have g2 : Below w'.heap.size w' W2 := by rw [hW2]; exact Below.alloc (Below.refl _ _) (Nat.le_refl _) _
  have bF : Blk W2 F 36 #[Value.int IntKind.i64 x.id, Value.int IntKind.u64 x.hi, Value.int IntKind.u64 x.lo, Value.int IntKind.u64 x.den, Value.bool x.item, Value.int IntKind.i64 x.node] := by rw [hW2]; exact Blk.new' _ _ hF
  have bW2 := HBW.out.trans (g2.mono (by have := HBW.out.size; omega))
  have R2 := HR.out.grow bW2
  have bR2 := blk_grow HBR.out g2
  have hs2 := g2.size
  have hrf : rr < F := by have := HBR.out.lt; omega
  clear hW2 hF g2 s0 c0 c1 c2 c3 c4 c5 HBR HBW
  have s0 := R2.blk.cell 0
  simp [HN.out] at s0
  have hkc : (k : Int) ≤ (cap : Int) := by omega
  have src1 : ∀ j u, (entRow (es.take k))[j]? = some u → W2.cell? ((⟨g, 0, none⟩ : Addr).add j) = some u := by
    intro j u hu
    rw [entRow_take, List.getElem?_take] at hu
    split at hu
    · exact R2.own.cells rfl j u hu
    · cases hu
  have hB2 : B ≤ W2.heap.size := by have := R2.base; have := R2.blk.lt; omega
  have hlk : k = (es.take k).length := by have := HN.out; simp; omega
  have hlt : ([] : List Ent).length + (es.take k).length ≤ 1000 := by rw [← hlk]; simp; omega
  have HBF := Lib.hid bF
  have HBR := Lib.hid bR2
  have HBW := Lib.hid bW2
  have HR2 := Lib.hid R2
  have HSR := Lib.hid src1
  have HLK := Lib.hid hlk
  have HLT := Lib.hid hlt
  have HB2 := Lib.hid hB2
  have HRR := Lib.hid hrr
  clear bF bR2 bW2 R2 src1 hlk hlt hB2 hrr
  go_upto_region 7 with (at_builtin; refine wpList_append_run _ (JoinedE B W2 (.slice none 0 0) ([] ++ es.take k)) rfl (.tmp 23) (.tmp 29) 27 rfl _ _ rfl rfl (run_append_ents W2 _ B (.slice none 0 0) [] (es.take k) ⟨g, 0, none⟩ k cap HLK.out (World.ownsRow_nil _ _ _ _) HSR.out HLT.out HB2.out) ?_; rintro v1 w1 ⟨ow1, gr1, lo1⟩)
  have HLO : Hid (v1.ownBlock = none ∨ v1.ownBlock = some W2.heap.size) := Lib.hid lo1
  have HG1 : Hid (W2.grownBy w1 none) := Lib.hid gr1
  have HO1 := Lib.hid ow1
  have HMW := Lib.hid HR2.out.blk.lt
  have HSF := Lib.hid (HR2.out.blk.frozen 0)
  have HS0 := Lib.hid s0
  have hgW : g < W2.heap.size := Nat.lt_of_lt_of_le hg HBW.out.size
  obtain ⟨k1, hk1⟩ : ∃ k1, k + 1 = k1 := ⟨_, rfl⟩
  have I1 : (k : Int) + 1 = (k1 : Int) := by omega
  have m1 := IntWalk.i64_in (n := (k1 : Int)) (by omega)
  have hk1n : (k1 : Int) ≤ (n : Int) := by omega
  have hk1c : (k1 : Int) ≤ (cap : Int) := by omega
  have t0 : w1.cell? ⟨m, 0, none⟩ = some (.slice (some ⟨g, 0, none⟩) n cap) := (HG1.out.cell_far ⟨m, 0, none⟩ HMW.out (by simp)).trans s0
  have src2 : ∀ j u, (entRow (es.drop k1))[j]? = some u → w1.cell? ((⟨g, k1 * 6, none⟩ : Addr).add j) = some u := by
    intro j u hu
    rw [entRow_drop, List.getElem?_drop] at hu
    have h1 := HR2.out.own.cells (g := g) rfl _ _ hu
    have ea : (⟨g, 0, none⟩ : Addr).add (k1 * 6 + j) = ⟨g, k1 * 6 + j, none⟩ := by rw [addg, Nat.zero_add]
    have eb : (⟨g, k1 * 6, none⟩ : Addr).add j = ⟨g, k1 * 6 + j, none⟩ := addg _ _ _
    rw [ea] at h1
    rw [eb]
    exact (HG1.out.cell_far ⟨g, k1 * 6 + j, none⟩ hgW (by simp)).trans h1
  have hld : n - k1 = (es.drop k1).length := by have := HN.out; simp; omega
  have hll : ([] ++ es.take k).length + (es.drop k1).length ≤ 1000 := by have := HN.out; simp; omega
  have hB1 : B ≤ w1.heap.size := Nat.le_trans HB2.out HG1.out.size
  have HS2 := Lib.hid src2
  have HLD := Lib.hid hld
  have HLL := Lib.hid hll
  have HB1 := Lib.hid hB1
  have HK1 := Lib.hid hk1
  clear lo1 gr1 ow1 s0 src2 hld hll hB1 hk1 hgW
  by_cases hck : cap = k1
  · have hnil : es.drop k1 = [] := List.drop_eq_nil_of_le (by have := HN.out; omega)
    have HNI := Lib.hid hnil
    clear hnil
    go_upto_region 8 with (at_builtin; refine wpList_append_run _ (JoinedE B w1 v1 (([] ++ es.take k) ++ es.drop k1)) rfl (.tmp 32) (.tmp 39) 27 rfl _ _ rfl rfl (run_append_ents w1 _ B v1 ([] ++ es.take k) (es.drop k1) ⟨g, 0, none⟩ _ _ HLD.out HO1.out (by rw [HNI.out]; intro j u hu; simp [entRow] at hu) HLL.out HB1.out) ?_; rintro v2 w2 ⟨ow2, gr2, lo2⟩; obtain ⟨a2, n2, c2, rfl⟩ := slice_form ow2; have hh : ∀ b0, b0 < W2.heap.size → w2.heap[b0]? = W2.heap[b0]? := (fun b0 h1 => (gr2.block b0 (Nat.lt_of_lt_of_le h1 HG1.out.size) (fun e => by rcases HLO.out with h3 | h3; (rw [h3] at e; cases e); (rw [h3] at e; cases e; omega))).trans (HG1.out.block b0 h1 (by simp))); have q8 : w2.cell? ⟨m, 0, none⟩ = some (.slice (some ⟨g, 0, none⟩) n cap) := (World.cell?_of_block (w := W2) (a := ⟨m, 0, none⟩) (hh m HMW.out)).trans HS0.out; have qf8 : w2.frozen? ⟨m, 0, none⟩ = false := (World.frozen?_of_block (w := W2) (a := ⟨m, 0, none⟩) (hh m HMW.out)).trans HSF.out)
    obtain ⟨W8, hW8⟩ : ∃ W8, W8 = w2.setCell ⟨m, 0, none⟩ (Value.slice a2 n2 c2) := ⟨_, rfl⟩
    have H8 := fun b0 (h1 : b0 < W2.heap.size) (h2 : b0 ≠ m) => (by rw [hW8, Below.heap_setCell _ _ _ _ h2]; exact hh b0 h1 : W8.heap[b0]? = W2.heap[b0]?)
    have hmw : m < W2.heap.size := HR2.out.blk.lt
    have hfr : F ≠ m ∧ rr ≠ m := by have := HRR.out; omega
    have bF : Blk W8 F 36 #[.int .i64 x.id, .int .u64 x.hi, .int .u64 x.lo, .int .u64 x.den, .bool x.item, .int .i64 x.node] := by unfold Blk; rw [H8 F HBF.out.lt hfr.1]; exact HBF.out
    have bR : Blk W8 rr 36 #[Value.int IntKind.i64 0, Value.int IntKind.u64 0, Value.int IntKind.u64 0, Value.int IntKind.u64 0, Value.bool false, Value.int IntKind.i64 0] := by unfold Blk; rw [H8 rr HBR.out.lt hfr.2]; exact HBR.out
    have hv2 : ∀ q, (Value.slice a2 n2 c2).ownBlock = some q → W2.heap.size ≤ q := by
      intro q hqq
      rcases lo2 with h1 | h1
      · rw [h1] at hqq
        rcases HLO.out with h3 | h3
        · rw [h3] at hqq; cases hqq
        · rw [h3] at hqq; cases hqq; exact Nat.le_refl _
      · rw [h1] at hqq; cases hqq
        exact HG1.out.size
    have J : IsRef W8 B m (Value.slice a2 n2 c2) (es.eraseIdx k) := by
      have hbm : Blk w2 m 29 #[.slice (some ⟨g, 0, none⟩) es.length cap] := by unfold Blk; rw [hh m hmw]; exact HR2.out.blk
      have hee : es.eraseIdx k = ([] ++ es.take k) ++ es.drop k1 := by rw [List.eraseIdx_eq_take_drop_succ, HK1.out]; rfl
      rw [hee]
      refine ⟨by rw [hW8]; exact hbm.set_ 0 (Value.slice a2 n2 c2), own_far ow2 (fun q hqq => by rw [hW8, Below.heap_setCell _ _ _ _ (show q ≠ m by have := hv2 q hqq; omega)]), fun q hqq => by have := hv2 q hqq; omega, HR2.out.base, fun e he => ?_⟩
      rcases List.mem_append.1 he with he | he
      · exact HR2.out.word e (List.mem_of_mem_take (by simpa using he))
      · exact HR2.out.word e (List.mem_of_mem_drop he)
    have K : Kept B m (.slice (some ⟨g, 0, none⟩) n cap) w W8 := by
      have hbb : Below B W2 W8 := by
        rw [hW8]
        refine Below.setCell (p := ⟨m, 0, none⟩) ?_ HR2.out.base (Value.slice a2 n2 c2)
        refine ((Below.refl B W2).grown HG1.out HB2.out (fun q hq => by simp at hq)).trans ((Below.refl B w1).grown gr2 (Nat.le_trans HB2.out HG1.out.size) (fun q hq => ?_))
        rcases HLO.out with h3 | h3
        · rw [h3] at hq; cases hq
        · rw [h3] at hq; cases hq; exact HB2.out
      refine ⟨(HBW.out.mono (by have := HR.out.base; omega)).trans hbb, fun q hq1 hq2 _ => ?_⟩
      rw [H8 q (Nat.lt_of_lt_of_le hq1 HBW.out.size) hq2]
      exact HBW.out.block q hq1
    have hrm : rr ≠ m := hfr.2
    have hvr : (Value.slice a2 n2 c2).ownBlock ≠ some rr := fun e => by have := hv2 _ e; have := HBR.out.lt; omega
    have hBr : B ≤ rr := by have := HR.out.base; have := HRR.out; omega
    have hwr : w.heap.size ≤ rr := by have := HRR.out; omega
    have O : Own (.slice (some ⟨g, 0, none⟩) n cap) (Value.slice a2 n2 c2) w := fun q hqq => .inr (by have := hv2 q hqq; have := HBW.out.size; omega)
    rw [← hW8]
    have f0 := bF.cell 0
    have r0 := bR.cell 0
    have q0 := bR.frozen 0
    have f1 := bF.cell 1
    have r1 := bR.cell 1
    have q1 := bR.frozen 1
    have f2 := bF.cell 2
    have r2 := bR.cell 2
    have q2 := bR.frozen 2
    have f3 := bF.cell 3
    have r3 := bR.cell 3
    have q3 := bR.frozen 3
    have f4 := bF.cell 4
    have r4 := bR.cell 4
    have q4 := bR.frozen 4
    have f5 := bF.cell 5
    have r5 := bR.cell 5
    have q5 := bR.frozen 5
    simp at f0 f1 f2 f3 f4 f5 r0 r1 r2 r3 r4 r5
    have HJ := Lib.hid J
    have HKK := Lib.hid K
    have HO := Lib.hid O
    have HH1 := Lib.hid hrm
    have HH2 := Lib.hid hvr
    have HH3 := Lib.hid hBr
    have HH4 := Lib.hid hwr
    have hb1 := Lib.hid bF
    have hb2 := Lib.hid bR
    clear hh H8 hmw hfr bF bR hv2 J K hrm hvr hBr hwr O hW8 ow2 gr2 lo2 q8 qf8
    go_wp2_with fail
    exact bodyPost_ret (v := .tuple #[.agg #[.int .i64 x.id, .int .u64 x.hi, .int .u64 x.lo, .int .u64 x.den, .bool x.item, .int .i64 x.node], .bool true]) (by simp [*, results, Try.results13, go_sem]) rfl ⟨rfl, (Value.slice a2 n2 c2), ((((((HJ.out.side HH1.out HH2.out 0 _).side HH1.out HH2.out 1 _).side HH1.out HH2.out 2 _).side HH1.out HH2.out 3 _).side HH1.out HH2.out 4 _).side HH1.out HH2.out 5 _), by rw [HN.out]; exact ((((((HKK.out.side HH3.out HH4.out 0 _).side HH3.out HH4.out 1 _).side HH3.out HH4.out 2 _).side HH3.out HH4.out 3 _).side HH3.out HH4.out 4 _).side HH3.out HH4.out 5 _), by rw [HN.out]; exact HO.out⟩
  · go_upto_region 8 with (at_builtin; refine wpList_append_run _ (JoinedE B w1 v1 (([] ++ es.take k) ++ es.drop k1)) rfl (.tmp 32) (.tmp 39) 27 rfl _ _ rfl rfl (run_append_ents w1 _ B v1 ([] ++ es.take k) (es.drop k1) ⟨g, k1 * 6, none⟩ (n - k1) (cap - k1) HLD.out HO1.out HS2.out HLL.out HB1.out) ?_; rintro v2 w2 ⟨ow2, gr2, lo2⟩; obtain ⟨a2, n2, c2, rfl⟩ := slice_form ow2; have hh : ∀ b0, b0 < W2.heap.size → w2.heap[b0]? = W2.heap[b0]? := (fun b0 h1 => (gr2.block b0 (Nat.lt_of_lt_of_le h1 HG1.out.size) (fun e => by rcases HLO.out with h3 | h3; (rw [h3] at e; cases e); (rw [h3] at e; cases e; omega))).trans (HG1.out.block b0 h1 (by simp))); have q8 : w2.cell? ⟨m, 0, none⟩ = some (.slice (some ⟨g, 0, none⟩) n cap) := (World.cell?_of_block (w := W2) (a := ⟨m, 0, none⟩) (hh m HMW.out)).trans HS0.out; have qf8 : w2.frozen? ⟨m, 0, none⟩ = false := (World.frozen?_of_block (w := W2) (a := ⟨m, 0, none⟩) (hh m HMW.out)).trans HSF.out)
    obtain ⟨W8, hW8⟩ : ∃ W8, W8 = w2.setCell ⟨m, 0, none⟩ (Value.slice a2 n2 c2) := ⟨_, rfl⟩
    have H8 := fun b0 (h1 : b0 < W2.heap.size) (h2 : b0 ≠ m) => (by rw [hW8, Below.heap_setCell _ _ _ _ h2]; exact hh b0 h1 : W8.heap[b0]? = W2.heap[b0]?)
    have hmw : m < W2.heap.size := HR2.out.blk.lt
    have hfr : F ≠ m ∧ rr ≠ m := by have := HRR.out; omega
    have bF : Blk W8 F 36 #[.int .i64 x.id, .int .u64 x.hi, .int .u64 x.lo, .int .u64 x.den, .bool x.item, .int .i64 x.node] := by unfold Blk; rw [H8 F HBF.out.lt hfr.1]; exact HBF.out
    have bR : Blk W8 rr 36 #[Value.int IntKind.i64 0, Value.int IntKind.u64 0, Value.int IntKind.u64 0, Value.int IntKind.u64 0, Value.bool false, Value.int IntKind.i64 0] := by unfold Blk; rw [H8 rr HBR.out.lt hfr.2]; exact HBR.out
    have hv2 : ∀ q, (Value.slice a2 n2 c2).ownBlock = some q → W2.heap.size ≤ q := by
      intro q hqq
      rcases lo2 with h1 | h1
      · rw [h1] at hqq
        rcases HLO.out with h3 | h3
        · rw [h3] at hqq; cases hqq
        · rw [h3] at hqq; cases hqq; exact Nat.le_refl _
      · rw [h1] at hqq; cases hqq
        exact HG1.out.size
    have J : IsRef W8 B m (Value.slice a2 n2 c2) (es.eraseIdx k) := by
      have hbm : Blk w2 m 29 #[.slice (some ⟨g, 0, none⟩) es.length cap] := by unfold Blk; rw [hh m hmw]; exact HR2.out.blk
      have hee : es.eraseIdx k = ([] ++ es.take k) ++ es.drop k1 := by rw [List.eraseIdx_eq_take_drop_succ, HK1.out]; rfl
      rw [hee]
      refine ⟨by rw [hW8]; exact hbm.set_ 0 (Value.slice a2 n2 c2), own_far ow2 (fun q hqq => by rw [hW8, Below.heap_setCell _ _ _ _ (show q ≠ m by have := hv2 q hqq; omega)]), fun q hqq => by have := hv2 q hqq; omega, HR2.out.base, fun e he => ?_⟩
      rcases List.mem_append.1 he with he | he
      · exact HR2.out.word e (List.mem_of_mem_take (by simpa using he))
      · exact HR2.out.word e (List.mem_of_mem_drop he)
    have K : Kept B m (.slice (some ⟨g, 0, none⟩) n cap) w W8 := by
      have hbb : Below B W2 W8 := by
        rw [hW8]
        refine Below.setCell (p := ⟨m, 0, none⟩) ?_ HR2.out.base (Value.slice a2 n2 c2)
        refine ((Below.refl B W2).grown HG1.out HB2.out (fun q hq => by simp at hq)).trans ((Below.refl B w1).grown gr2 (Nat.le_trans HB2.out HG1.out.size) (fun q hq => ?_))
        rcases HLO.out with h3 | h3
        · rw [h3] at hq; cases hq
        · rw [h3] at hq; cases hq; exact HB2.out
      refine ⟨(HBW.out.mono (by have := HR.out.base; omega)).trans hbb, fun q hq1 hq2 _ => ?_⟩
      rw [H8 q (Nat.lt_of_lt_of_le hq1 HBW.out.size) hq2]
      exact HBW.out.block q hq1
    have hrm : rr ≠ m := hfr.2
    have hvr : (Value.slice a2 n2 c2).ownBlock ≠ some rr := fun e => by have := hv2 _ e; have := HBR.out.lt; omega
    have hBr : B ≤ rr := by have := HR.out.base; have := HRR.out; omega
    have hwr : w.heap.size ≤ rr := by have := HRR.out; omega
    have O : Own (.slice (some ⟨g, 0, none⟩) n cap) (Value.slice a2 n2 c2) w := fun q hqq => .inr (by have := hv2 q hqq; have := HBW.out.size; omega)
    rw [← hW8]
    have f0 := bF.cell 0
    have r0 := bR.cell 0
    have q0 := bR.frozen 0
    have f1 := bF.cell 1
    have r1 := bR.cell 1
    have q1 := bR.frozen 1
    have f2 := bF.cell 2
    have r2 := bR.cell 2
    have q2 := bR.frozen 2
    have f3 := bF.cell 3
    have r3 := bR.cell 3
    have q3 := bR.frozen 3
    have f4 := bF.cell 4
    have r4 := bR.cell 4
    have q4 := bR.frozen 4
    have f5 := bF.cell 5
    have r5 := bR.cell 5
    have q5 := bR.frozen 5
    simp at f0 f1 f2 f3 f4 f5 r0 r1 r2 r3 r4 r5
    have HJ := Lib.hid J
    have HKK := Lib.hid K
    have HO := Lib.hid O
    have HH1 := Lib.hid hrm
    have HH2 := Lib.hid hvr
    have HH3 := Lib.hid hBr
    have HH4 := Lib.hid hwr
    have hb1 := Lib.hid bF
    have hb2 := Lib.hid bR
    clear hh H8 hmw hfr bF bR hv2 J K hrm hvr hBr hwr O hW8 ow2 gr2 lo2 q8 qf8
    go_wp2_with fail
    exact bodyPost_ret (v := .tuple #[.agg #[.int .i64 x.id, .int .u64 x.hi, .int .u64 x.lo, .int .u64 x.den, .bool x.item, .int .i64 x.node], .bool true]) (by simp [*, results, Try.results13, go_sem]) rfl ⟨rfl, (Value.slice a2 n2 c2), ((((((HJ.out.side HH1.out HH2.out 0 _).side HH1.out HH2.out 1 _).side HH1.out HH2.out 2 _).side HH1.out HH2.out 3 _).side HH1.out HH2.out 4 _).side HH1.out HH2.out 5 _), by rw [HN.out]; exact ((((((HKK.out.side HH3.out HH4.out 0 _).side HH3.out HH4.out 1 _).side HH3.out HH4.out 2 _).side HH3.out HH4.out 3 _).side HH3.out HH4.out 4 _).side HH3.out HH4.out 5 _), by rw [HN.out]; exact HO.out⟩
end Go.Proofs.Ytamhngjhgdmgbaa
