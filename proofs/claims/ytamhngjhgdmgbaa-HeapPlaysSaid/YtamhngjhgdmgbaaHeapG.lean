/- pergolaref14.Heap in memory: top, Top. -/
import Derived.Test.YtamhngjhgdmgbaaHeapGM
namespace Go.Proofs.Ytamhngjhgdmgbaa
open Go.RowKit

def entRow (l : List Ent) : List Value := l.flatMap entCells
theorem entRow_length (l : List Ent) : (entRow l).length = l.length * 6 := by
  induction l with
  | nil => rfl
  | cons d r ih => simp only [entRow, List.flatMap_cons, List.length_append, entCells, List.length_cons, List.length_nil] at *; omega
theorem entRow_append (l r : List Ent) : entRow (l ++ r) = entRow l ++ entRow r := by simp [entRow]
theorem entRow_one {l : List Ent} {u : Value} (h : u ∈ entRow l) : u.oneCell' = true := by
  simp [entRow, entCells] at h
  obtain ⟨e, _, rfl | rfl | rfl | rfl | rfl | rfl⟩ := h <;> rfl
theorem entRow_at (l : List Ent) : ∀ i, i < l.length → ∀ j, j < 6 → (entRow l)[i * 6 + j]? = (entCells (l.getD i e0))[j]? := by
  induction l with
  | nil => intro i h; simp at h
  | cons d r ih =>
    intro i hi j hj
    have e : entRow (d :: r) = entCells d ++ entRow r := by simp [entRow]
    have hl : (entCells d).length = 6 := rfl
    cases i with
    | zero => rw [e, Nat.zero_mul, Nat.zero_add, List.getElem?_append_left (by omega)]; rfl
    | succ i =>
      rw [e, List.getElem?_append_right (by omega), hl, show (i + 1) * 6 + j - 6 = i * 6 + j from by omega, ih i (by simpa using hi) j hj]
      simp [List.getD_eq_getElem?_getD]
theorem entRow_take (l : List Ent) (n : Nat) : entRow (l.take n) = (entRow l).take (n * 6) := by
  induction l generalizing n with
  | nil => simp [entRow]
  | cons d r ih =>
    have e : ∀ (d : Ent) r, entRow (d :: r) = entCells d ++ entRow r := by intro d r; simp [entRow]
    cases n with
    | zero => simp [entRow]
    | succ n =>
      have hl : (entCells d).length = 6 := rfl
      rw [List.take_succ_cons, e, e, ih, List.take_append, hl, List.take_of_length_le (l := entCells d) (by rw [hl]; omega), show (n + 1) * 6 - 6 = n * 6 from by omega]
theorem entRow_drop (l : List Ent) (n : Nat) : entRow (l.drop n) = (entRow l).drop (n * 6) := by
  induction l generalizing n with
  | nil => simp [entRow]
  | cons d r ih =>
    have e : ∀ (d : Ent) r, entRow (d :: r) = entCells d ++ entRow r := by intro d r; simp [entRow]
    cases n with
    | zero => simp [entRow]
    | succ n =>
      have hl : (entCells d).length = 6 := rfl
      rw [List.drop_succ_cons, e, ih, List.drop_append, hl, show (entCells d).drop ((n + 1) * 6) = [] from List.drop_eq_nil_of_le (by rw [hl]; omega), List.nil_append, show (n + 1) * 6 - 6 = n * 6 from by omega]

/-- Block m is a reference's heap of es. -/
structure IsRef (w : World) (B m : Nat) (v : Value) (es : List Ent) : Prop where
  blk : Blk w m 29 #[v]
  own : w.ownsRow B 36 6 v es.length (entRow es)
  apart : ∀ g, v.ownBlock = some g → g ≠ m
  base : B ≤ m
  word : ∀ e ∈ es, WordE e
theorem IsRef.form {w : World} {B m : Nat} {v : Value} {es : List Ent} (R : IsRef w B m v es) : ∃ a cap, v = .slice a es.length cap := by
  rcases R.own.2 with ⟨rfl, h0⟩ | ⟨g, cap, cur, rfl, _⟩
  · exact ⟨none, 0, by rw [h0]⟩
  · exact ⟨_, cap, rfl⟩
theorem IsRef.far {w w' : World} {B m : Nat} {v : Value} {es : List Ent} (R : IsRef w B m v es) (hh : w'.heap[m]? = w.heap[m]?) (hv : ∀ g, v.ownBlock = some g → w'.heap[g]? = w.heap[g]?) : IsRef w' B m v es :=
  ⟨by unfold Blk; rw [hh]; exact R.blk, own_far R.own hv, R.apart, R.base, R.word⟩
theorem IsRef.own_lt {w : World} {B m : Nat} {v : Value} {es : List Ent} (R : IsRef w B m v es) {g : Nat} (hg : v.ownBlock = some g) : B ≤ g ∧ g < w.heap.size := by
  rcases R.own.2 with ⟨rfl, _⟩ | ⟨g', cap, cur, rfl, hb, h3, _⟩
  · simp [Value.ownBlock] at hg
  · simp [Value.ownBlock] at hg
    subst hg
    refine ⟨hb, ?_⟩
    rcases Nat.lt_or_ge g' w.heap.size with h' | h'
    · exact h'
    · rw [Array.getElem?_eq_none h'] at h3; cases h3
theorem IsRef.grow {w w' : World} {B m : Nat} {v : Value} {es : List Ent} (R : IsRef w B m v es) (hb : Below w.heap.size w w') : IsRef w' B m v es :=
  R.far (hb.block m R.blk.lt) (fun g hg => hb.block g (R.own_lt hg).2)
theorem IsRef.beside {w w' : World} {B B' h' m : Nat} {v v' : Value} {es : List Ent} (R : IsRef w B m v es) (k : Kept B' h' v' w w') (h1 : m ≠ h') (h2 : v'.ownBlock ≠ some m) (h3 : ∀ g, v.ownBlock = some g → g ≠ h' ∧ v'.ownBlock ≠ some g) : IsRef w' B m v es :=
  R.far (k.far m R.blk.lt h1 h2) (fun g hg => k.far g (R.own_lt hg).2 (h3 g hg).1 (h3 g hg).2)
theorem IsRef.word_at {w : World} {B m : Nat} {v : Value} {es : List Ent} (R : IsRef w B m v es) {i : Nat} (hi : i < es.length) : WordE (es.getD i e0) :=
  R.word _ (by rw [List.getD_eq_getElem?_getD, List.getElem?_eq_getElem hi]; exact List.getElem_mem _)
theorem IsRef.side {w : World} {B m : Nat} {v : Value} {es : List Ent} (R : IsRef w B m v es) {g : Nat} (h1 : g ≠ m) (h2 : v.ownBlock ≠ some g) (i : Nat) (u : Value) : IsRef (w.setCell ⟨g, i, none⟩ u) B m v es :=
  R.far (Below.heap_setCell _ _ _ _ (Ne.symm h1)) (fun q hq => Below.heap_setCell _ _ _ _ (show q ≠ g from fun e => h2 (by rw [← e]; exact hq)))
/-- The cells of the i-th one. -/
theorem IsRef.at_ {w : World} {B m : Nat} {v : Value} {es : List Ent} (R : IsRef w B m v es) (hp : 0 < es.length) :
    ∃ g cap, v = .slice (some ⟨g, 0, none⟩) es.length cap ∧ B ≤ g ∧ g < w.heap.size ∧ g ≠ m ∧ es.length ≤ cap ∧ ∀ i, i < es.length → ∀ j u, (entCells (es.getD i e0))[j]? = some u → w.cell? ⟨g, i * 6 + j, none⟩ = some u := by
  obtain ⟨g, cap, hv, hb, hl⟩ := R.own.form hp
  refine ⟨g, cap, hv, hb, hl, R.apart g (by rw [hv]; rfl), ?_, fun i hi j u hu => ?_⟩
  · rcases R.own.2 with ⟨h', _⟩ | ⟨g', cap', cur, h', _, _, hnc, _⟩
    · rw [hv] at h'; simp at h'
    · rw [hv] at h'
      simp only [Value.slice.injEq, Option.some.injEq, Addr.mk.injEq, and_true] at h'
      obtain ⟨_, _, rfl⟩ := h'
      exact hnc
  · have hj : j < 6 := (List.getElem?_eq_some_iff.1 hu).1
    rw [← entRow_at es i hi j hj] at hu
    have hc := R.own.cells (g := g) (by rw [hv]; rfl) _ _ hu
    have ea : (⟨g, 0, none⟩ : Addr).add (i * 6 + j) = ⟨g, i * 6 + j, none⟩ := by unfold Addr.add; split <;> simp_all
    rw [ea] at hc
    exact hc

theorem rlessIs_any (x y : Ent) (b : Bool) (h : LessIs x y b) (w : World) :
    Calls Try.prog 20 #[.agg #[.int .i64 x.id, .int .u64 x.hi, .int .u64 x.lo, .int .u64 x.den, .bool x.item, .int .i64 x.node], .agg #[.int .i64 y.id, .int .u64 y.hi, .int .u64 y.lo, .int .u64 y.den, .bool y.item, .int .i64 y.node]] w fun e w' => e = .returned (.bool b) ∧ Below w.heap.size w w' := by
  rw [← h.eq]
  exact lessEntry_any _ _ _ _ _ _ _ _ _ _ _ _ h.wx.1 h.wx.2.1 h.wx.2.2 h.wy.1 h.wy.2.1 h.wy.2.2 w

set_option maxHeartbeats 4000000 in
theorem rtop_any (B m : Nat) (v : Value) (es : List Ent) (w : World) (R : IsRef w B m v es) (hm : es.length ≤ 1000) :
    Calls Try.prog 22 #[.pointer (some ⟨m, 0, none⟩)] w fun e w' => e = .returned (.int .i64 (topF es es.length)) ∧ Below w.heap.size w w' := by
  obtain ⟨a, cap, hv⟩ := R.form
  have hl := R.blk.lt
  have k0 := R.blk.cell 0
  rw [hv] at k0
  simp at k0
  have HR := Lib.hid R
  obtain ⟨n, hn⟩ : ∃ n, es.length = n := ⟨_, rfl⟩
  have HV := Lib.hid hv
  have HN := Lib.hid hn
  rw [hn] at k0 hm ⊢
  clear R hv hn
  go_enter Try.func22, Try.ntmps22
  go_wp2_with fail
  go_loopw [3, 4] (fun s t wr => ∃ j : Nat, t = .int .i64 j ∧ s = .int .i64 (topF es j) ∧ j ≤ n ∧ Below w.heap.size w wr) (fun _ t _ => n - (intOf t).toNat)
  case atStart => exact ⟨0, rfl, rfl, Nat.zero_le _, Below.refl _ _⟩
  case round =>
    obtain ⟨j, rfl, rfl, hj, hB⟩ := hrel
    have c00 := (hB.cell (p := ⟨m, 0, none⟩) hl).trans k0
    by_cases hjn : j < n
    · have hjn' : (j : Int) < (n : Int) := by omega
      obtain ⟨g, cap', hv, -, hgl, -, -, hc⟩ := HR.out.at_ (by have := HN.out; omega)
      rw [HV.out] at hv
      simp only [Value.slice.injEq] at hv
      obtain ⟨rfl, -, rfl⟩ := hv
      have hq := topF_le es j n (by omega) (by omega)
      obtain ⟨q, hqq⟩ : ∃ q, topF es j = q := ⟨_, rfl⟩
      rw [hqq] at hq
      rw [hqq]
      have hqn' : (q : Int) < (n : Int) := by omega
      have x0 := hc j (by have := HN.out; omega)
      have y0 := hc q (by have := HN.out; omega)
      have wx := HR.out.word_at (i := j) (by have := HN.out; omega)
      have wy := HR.out.word_at (i := q) (by have := HN.out; omega)
      obtain ⟨b1, hb1⟩ : ∃ b1, decide (cmpEn (es.getD j e0) (es.getD q e0) < 0) = b1 := ⟨_, rfl⟩
      have hnext : topF es (j + 1) = if b1 then j else q := by
        rw [← hb1]
        show (if _ then _ else _) = _
        rw [hqq]
        simp
      have L1 : LessIs (es.getD j e0) (es.getD q e0) b1 := ⟨hb1, wx, wy⟩
      generalize es.getD j e0 = X at *
      generalize es.getD q e0 = Y at *
      have c0 := (hB.cell (p := ⟨g, j * 6 + 0, none⟩) hgl).trans (x0 0 _ rfl)
      have c1 := (hB.cell (p := ⟨g, j * 6 + 1, none⟩) hgl).trans (x0 1 _ rfl)
      have c2 := (hB.cell (p := ⟨g, j * 6 + 2, none⟩) hgl).trans (x0 2 _ rfl)
      have c3 := (hB.cell (p := ⟨g, j * 6 + 3, none⟩) hgl).trans (x0 3 _ rfl)
      have c4 := (hB.cell (p := ⟨g, j * 6 + 4, none⟩) hgl).trans (x0 4 _ rfl)
      have c5 := (hB.cell (p := ⟨g, j * 6 + 5, none⟩) hgl).trans (x0 5 _ rfl)
      have d0 := (hB.cell (p := ⟨g, q * 6 + 0, none⟩) hgl).trans (y0 0 _ rfl)
      have d1 := (hB.cell (p := ⟨g, q * 6 + 1, none⟩) hgl).trans (y0 1 _ rfl)
      have d2 := (hB.cell (p := ⟨g, q * 6 + 2, none⟩) hgl).trans (y0 2 _ rfl)
      have d3 := (hB.cell (p := ⟨g, q * 6 + 3, none⟩) hgl).trans (y0 3 _ rfl)
      have d4 := (hB.cell (p := ⟨g, q * 6 + 4, none⟩) hgl).trans (y0 4 _ rfl)
      have d5 := (hB.cell (p := ⟨g, q * 6 + 5, none⟩) hgl).trans (y0 5 _ rfl)
      simp only [Nat.add_zero] at c0 d0
      have hgw : g < wr.heap.size := Nat.lt_of_lt_of_le hgl hB.size
      have hmw : m < wr.heap.size := Nat.lt_of_lt_of_le hl hB.size
      have HB := Lib.hid hB
      have hsw := hB.size
      have HQ := Lib.hid hqq
      have HX := Lib.hid hnext
      clear x0 y0 wx wy hb1 hB hqq hc hnext
      cases b1
      · go_wp2_with fail
        (refine wp_region_text (by kernel_rfl) (by kernel_rfl) ?_; (repeat (first | (refine step_val (v := ?_) (by rfl) ?_ ?_; rotate_left; (· (intro z hz; obtain ⟨hc, hf⟩ := keep hz; go_simp; first | done | (with_reducible rfl))); (try simp only [Act.put, List.setIfInBounds_toArray, List.set_cons_zero, List.set_cons_succ])) | (refine step_skip (by rfl) ?_; (try simp only [Act.put, List.setIfInBounds_toArray, List.set_cons_zero, List.set_cons_succ])) | (refine step_call (v := ?_) (f := ?_) (args := ?_) (by rfl) ?_ ?_ ?_; rotate_left; rotate_left; rotate_left; (· (intro z hz; go_simp; first | done | (with_reducible rfl) | (constructor <;> with_reducible rfl))); (· (intro z hz; first | (go_at_call 20; refine (rlessIs_any X Y _ L1 _).mono ?_; rintro e w' ⟨rfl, hB⟩; refine ⟨?_, hz.trans (hB.mono hz.size)⟩; with_reducible rfl))); (try simp only [Act.put, List.setIfInBounds_toArray, List.set_cons_zero, List.set_cons_succ])))); refine steps_end ?_; intro w' hB; obtain ⟨hc, hf⟩ := keep hB; have hz := hB.size; try simp at hz)
        go_wp2_with fail
        go_roundw
        case rel => exact ⟨j + 1, by go_num, by rw [HX.out]; rfl, by omega, HB.out.trans (hB.mono hsw)⟩
        case measure => simp [intOf]; omega
      · go_wp2_with fail
        (refine wp_region_text (by kernel_rfl) (by kernel_rfl) ?_; (repeat (first | (refine step_val (v := ?_) (by rfl) ?_ ?_; rotate_left; (· (intro z hz; obtain ⟨hc, hf⟩ := keep hz; go_simp; first | done | (with_reducible rfl))); (try simp only [Act.put, List.setIfInBounds_toArray, List.set_cons_zero, List.set_cons_succ])) | (refine step_skip (by rfl) ?_; (try simp only [Act.put, List.setIfInBounds_toArray, List.set_cons_zero, List.set_cons_succ])) | (refine step_call (v := ?_) (f := ?_) (args := ?_) (by rfl) ?_ ?_ ?_; rotate_left; rotate_left; rotate_left; (· (intro z hz; go_simp; first | done | (with_reducible rfl) | (constructor <;> with_reducible rfl))); (· (intro z hz; first | (go_at_call 20; refine (rlessIs_any X Y _ L1 _).mono ?_; rintro e w' ⟨rfl, hB⟩; refine ⟨?_, hz.trans (hB.mono hz.size)⟩; with_reducible rfl))); (try simp only [Act.put, List.setIfInBounds_toArray, List.set_cons_zero, List.set_cons_succ])))); refine steps_end ?_; intro w' hB; obtain ⟨hc, hf⟩ := keep hB; have hz := hB.size; try simp at hz)
        go_wp2_with fail
        go_roundw
        case rel => exact ⟨j + 1, by go_num, by rw [HX.out]; rfl, by omega, HB.out.trans (hB.mono hsw)⟩
        case measure => simp [intOf]; omega
    · have hjn2 : j = n := by omega
      subst hjn2
      have hlt' : ¬ (j : Int) < (j : Int) := by omega
      obtain ⟨q, hq⟩ : ∃ q, topF es j = q := ⟨_, rfl⟩
      rw [hq]
      have HB := Lib.hid hB
      have HQ := Lib.hid hq
      clear hB hq
      go_wp2_with fail
      go_ret
      exact ⟨by rw [HQ.out]; rfl, HB.out⟩
end Go.Proofs.Ytamhngjhgdmgbaa
