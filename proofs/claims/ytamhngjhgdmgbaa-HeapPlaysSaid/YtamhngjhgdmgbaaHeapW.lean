/- What a heap's methods leave of the rest of memory. -/
import Derived.Test.YtamhngjhgdmgbaaHeapC
import Derived.Test.YtamhngjhgdmgbaaRegionCells
import Derived.Test.YtamhngjhgdmgbaaMulW
namespace Go.Proofs.Ytamhngjhgdmgbaa
open Go.RowKit

/-- But for block h and v's own, w' holds what w held. -/
structure Kept (B h : Nat) (v : Value) (w w' : World) : Prop where
  below : Below B w w'
  far : ∀ g, g < w.heap.size → g ≠ h → v.ownBlock ≠ some g → w'.heap[g]? = w.heap[g]?
/-- v' lies where v lay, or in new memory. -/
def Own (v v' : Value) (w : World) : Prop := ∀ g, v'.ownBlock = some g → v.ownBlock = some g ∨ w.heap.size ≤ g

theorem Own.refl (v : Value) (w : World) : Own v v w := fun _ h => .inl h
theorem Own.trans {v v1 v2 : Value} {w w1 : World} (h : Own v v1 w) (k : Own v1 v2 w1) (hs : w.heap.size ≤ w1.heap.size) : Own v v2 w := by
  intro g hg
  rcases k g hg with h1 | h1
  · exact h g h1
  · exact .inr (Nat.le_trans hs h1)
theorem Kept.refl (B h : Nat) (v : Value) (w : World) : Kept B h v w w := ⟨Below.refl _ _, fun _ _ _ _ => rfl⟩
theorem Kept.trans {B h : Nat} {v v1 : Value} {w w1 w2 : World} (a : Kept B h v w w1) (o : Own v v1 w) (b : Kept B h v1 w1 w2) : Kept B h v w w2 := by
  refine ⟨a.below.trans b.below, fun g hg h1 h2 => ?_⟩
  rw [b.far g (Nat.lt_of_lt_of_le hg a.below.size) h1 (fun e => by rcases o g e with e1 | e1; exact h2 e1; omega), a.far g hg h1 h2]
theorem Kept.of_below {B h : Nat} {v : Value} {w w' : World} (hb : Below w.heap.size w w') (hB : B ≤ w.heap.size) : Kept B h v w w' := ⟨hb.mono hB, fun g hg _ _ => hb.block g hg⟩
theorem own_far {w w' : World} {base : Nat} {e : TypeId} {size : Nat} {v : Value} {n : Nat} {xs : List Value} (h : w.ownsRow base e size v n xs) (hf : ∀ g, v.ownBlock = some g → w'.heap[g]? = w.heap[g]?) : w'.ownsRow base e size v n xs := by
  refine ⟨h.1, ?_⟩
  rcases h.2 with h' | ⟨g, cap, cur, h1, h2, h3, h4⟩
  · exact .inl h'
  · exact .inr ⟨g, cap, cur, h1, h2, by rw [hf g (by rw [h1]; rfl)]; exact h3, h4⟩
theorem IsHeap.far {w w' : World} {B h : Nat} {v : Value} {xs : List Psh} {c : Int} (H : IsHeap w B h v xs c) (hh : w'.heap[h]? = w.heap[h]?) (hv : ∀ g, v.ownBlock = some g → w'.heap[g]? = w.heap[g]?) : IsHeap w' B h v xs c :=
  ⟨by unfold Blk; rw [hh]; exact H.blk, own_far H.own hv, H.apart, H.base, H.word⟩
theorem IsHeap.own_lt {w : World} {B h : Nat} {v : Value} {xs : List Psh} {c : Int} (H : IsHeap w B h v xs c) {g : Nat} (hg : v.ownBlock = some g) : B ≤ g ∧ g < w.heap.size := by
  rcases H.own.2 with ⟨rfl, _⟩ | ⟨g', cap, cur, rfl, hb, h3, _⟩
  · simp [Value.ownBlock] at hg
  · simp [Value.ownBlock] at hg
    subst hg
    refine ⟨hb, ?_⟩
    rcases Nat.lt_or_ge g' w.heap.size with h' | h'
    · exact h'
    · rw [Array.getElem?_eq_none h'] at h3; cases h3
theorem IsHeap.grow {w w' : World} {B h : Nat} {v : Value} {xs : List Psh} {c : Int} (H : IsHeap w B h v xs c) (hb : Below w.heap.size w w') : IsHeap w' B h v xs c :=
  H.far (hb.block h H.blk.lt) (fun g hg => hb.block g (H.own_lt hg).2)
/-- Two heaps: what one's methods do does not touch the other. -/
theorem IsHeap.beside {w w' : World} {B B' h h' : Nat} {v v' : Value} {xs : List Psh} {c : Int} (H : IsHeap w B h v xs c) (k : Kept B' h' v' w w') (h1 : h ≠ h') (h2 : v'.ownBlock ≠ some h) (h3 : ∀ g, v.ownBlock = some g → g ≠ h' ∧ v'.ownBlock ≠ some g) : IsHeap w' B h v xs c :=
  H.far (k.far h H.blk.lt h1 h2) (fun g hg => k.far g (H.own_lt hg).2 (h3 g hg).1 (h3 g hg).2)

/-- A store into the heap's object. -/
theorem Kept.set_ {B h : Nat} {v : Value} {w w' : World} (k : Kept B h v w w') (hB : B ≤ h) (i : Nat) (u : Value) : Kept B h v w (w'.setCell ⟨h, i, none⟩ u) :=
  ⟨k.below.setCell hB u, fun g hg h1 h2 => by rw [Below.heap_setCell _ _ _ _ h1]; exact k.far g hg h1 h2⟩

/-- What is known behind 'h.l = append(h.l, pushed{x, c})'. -/
theorem append_leaves {B h : Nat} {v : Value} {w W w1 : World} {xs : List Psh} {c : Int} {x : Ent} {g cap n : Nat} (H : IsHeap w B h v xs c) (hn : n = xs.length + 1)
    (kW : Kept B h v w W) (hb : Blk W h 51 #[v, .int .i64 (c + 1)]) (hx : WordE x)
    (hown : w1.ownsRow B 60 7 (.slice (some ⟨g, 0, none⟩) n cap) n (rowCells xs ++ pshCells ⟨x, c + 1⟩))
    (hg : W.grownBy w1 v.ownBlock) (ha : v.ownBlock = some g ∨ g = W.heap.size) :
    IsHeap (w1.setCell ⟨h, 0, none⟩ (.slice (some ⟨g, 0, none⟩) n cap)) B h (.slice (some ⟨g, 0, none⟩) n cap) (xs ++ [⟨x, c + 1⟩]) (c + 1) ∧
    Kept B h v w (w1.setCell ⟨h, 0, none⟩ (.slice (some ⟨g, 0, none⟩) n cap)) ∧ Own v (.slice (some ⟨g, 0, none⟩) n cap) w := by
  have hl := H.blk.lt
  have hs := kW.below.size
  have hgh : g ≠ h := by
    rcases ha with e | e
    · exact H.apart g e
    · omega
  have hb1 : Blk w1 h 51 #[v, .int .i64 (c + 1)] := by
    unfold Blk
    rw [hg.block h (by omega) (fun e => H.apart h e.symm rfl)]
    exact hb
  have e1 : rowCells (xs ++ [⟨x, c + 1⟩]) = rowCells xs ++ pshCells ⟨x, c + 1⟩ := by rw [rowCells_append]; simp [rowCells]
  have e2 : (xs ++ [(⟨x, c + 1⟩ : Psh)]).length = n := by simp [hn]
  refine ⟨⟨?_, ?_, ?_, H.base, ?_⟩, ?_, ?_⟩
  · exact hb1.set_ 0 _
  · rw [e1, e2]
    exact own_far hown (fun g' hg' => by simp [Value.ownBlock] at hg'; subst hg'; exact Below.heap_setCell _ _ _ _ hgh)
  · intro g' hg'; simp [Value.ownBlock] at hg'; subst hg'; exact hgh
  · intro p hp
    rcases List.mem_append.1 hp with hp | hp
    · exact H.word p hp
    · simp at hp; subst hp; exact hx
  · refine Kept.set_ ⟨kW.below.trans ⟨hg.os, hg.tape, hg.output, hg.size, fun k hk => hg.block k (by have := H.base; omega) (fun e => by have := (H.own_lt e.symm).1; omega)⟩, fun g' hg' n1 n2 => ?_⟩ H.base 0 _
    rw [hg.block g' (by omega) (fun e => n2 e.symm)]
    exact kW.far g' hg' n1 n2
  · intro g' hg'
    simp [Value.ownBlock] at hg'
    subst hg'
    rcases ha with e | e
    · exact .inl e
    · exact .inr (by omega)

theorem rowCells_set (p : Psh) : ∀ (xs : List Psh) (i : Nat), i < xs.length → rowCells (xs.set i p) = (((((((rowCells xs).set (i * 7) (.int .i64 p.e.id)).set (i * 7 + 1) (.int .u64 p.e.hi)).set (i * 7 + 2) (.int .u64 p.e.lo)).set (i * 7 + 3) (.int .u64 p.e.den)).set (i * 7 + 4) (.bool p.e.item)).set (i * 7 + 5) (.int .i64 p.e.node)).set (i * 7 + 6) (.int .i64 p.c) := by
  intro xs
  induction xs with
  | nil => intro i h; simp at h
  | cons d r ih =>
    intro i hi
    have e : ∀ (d : Psh) r, rowCells (d :: r) = pshCells d ++ rowCells r := by intro d r; simp [rowCells]
    cases i with
    | zero => rw [e, List.set_cons_zero, e]; simp [pshCells]
    | succ i =>
      have hl : (pshCells d).length = 7 := rfl
      have hj : ∀ (s : List Value) j u, (pshCells d ++ s).set ((i + 1) * 7 + j) u = pshCells d ++ s.set (i * 7 + j) u := by
        intro s j u
        rw [List.set_append, if_neg (by rw [hl]; omega), hl, show (i + 1) * 7 + j - 7 = i * 7 + j from by omega]
      have h0 : ∀ (s : List Value) u, (pshCells d ++ s).set ((i + 1) * 7) u = pshCells d ++ s.set (i * 7) u := fun s u => hj s 0 u
      rw [e, List.set_cons_succ, e, ih i (by simpa using hi), h0, hj, hj, hj, hj, hj, hj]

/-- One of the row's, written anew. -/
def put7 (w : World) (g i : Nat) (p : Psh) : World :=
  ((((((w.setCell ⟨g, i * 7, none⟩ (.int .i64 p.e.id)).setCell ⟨g, i * 7 + 1, none⟩ (.int .u64 p.e.hi)).setCell ⟨g, i * 7 + 2, none⟩ (.int .u64 p.e.lo)).setCell ⟨g, i * 7 + 3, none⟩ (.int .u64 p.e.den)).setCell ⟨g, i * 7 + 4, none⟩ (.bool p.e.item)).setCell ⟨g, i * 7 + 5, none⟩ (.int .i64 p.e.node)).setCell ⟨g, i * 7 + 6, none⟩ (.int .i64 p.c)
theorem put7_leaves {w : World} {B h g n cap i : Nat} {xs : List Psh} {c : Int} {p : Psh} (H : IsHeap w B h (.slice (some ⟨g, 0, none⟩) n cap) xs c) (hn : xs.length = n) (hi : i < n) (hp : WordE p.e) :
    IsHeap (put7 w g i p) B h (.slice (some ⟨g, 0, none⟩) n cap) (xs.set i p) c ∧ Kept B h (.slice (some ⟨g, 0, none⟩) n cap) w (put7 w g i p) := by
  have o := H.own
  rw [hn] at o
  obtain ⟨o1, g1⟩ := o.stored (i * 7) (.int .i64 p.e.id)
  obtain ⟨o2, g2⟩ := o1.stored (i * 7 + 1) (.int .u64 p.e.hi)
  obtain ⟨o3, g3⟩ := o2.stored (i * 7 + 2) (.int .u64 p.e.lo)
  obtain ⟨o4, g4⟩ := o3.stored (i * 7 + 3) (.int .u64 p.e.den)
  obtain ⟨o5, g5⟩ := o4.stored (i * 7 + 4) (.bool p.e.item)
  obtain ⟨o6, g6⟩ := o5.stored (i * 7 + 5) (.int .i64 p.e.node)
  obtain ⟨o7, g7⟩ := o6.stored (i * 7 + 6) (.int .i64 p.c)
  rw [← rowCells_set p xs i (by omega)] at o7
  have hgh := H.apart g rfl
  have hbg := (H.own_lt (g := g) rfl).1
  have far : ∀ k, k ≠ g → (put7 w g i p).heap[k]? = w.heap[k]? := by
    intro k hk
    unfold put7
    rw [Below.heap_setCell _ _ _ _ hk, Below.heap_setCell _ _ _ _ hk, Below.heap_setCell _ _ _ _ hk, Below.heap_setCell _ _ _ _ hk, Below.heap_setCell _ _ _ _ hk, Below.heap_setCell _ _ _ _ hk, Below.heap_setCell _ _ _ _ hk]
  refine ⟨⟨?_, ?_, H.apart, H.base, ?_⟩, ⟨?_, fun k _ _ hk => far k (fun e => hk (by rw [e]; rfl))⟩⟩
  · unfold Blk; rw [far h (Ne.symm hgh)]; exact H.blk
  · rw [List.length_set, hn]; exact o7
  · intro x hx
    rcases List.mem_or_eq_of_mem_set hx with hx | rfl
    · exact H.word x hx
    · exact hp
  · unfold put7
    exact (((((((Below.refl B w).setCell (p := ⟨g, i * 7, none⟩) hbg _).setCell (p := ⟨g, i * 7 + 1, none⟩) hbg _).setCell (p := ⟨g, i * 7 + 2, none⟩) hbg _).setCell (p := ⟨g, i * 7 + 3, none⟩) hbg _).setCell (p := ⟨g, i * 7 + 4, none⟩) hbg _).setCell (p := ⟨g, i * 7 + 5, none⟩) hbg _).setCell (p := ⟨g, i * 7 + 6, none⟩) hbg _
theorem IsHeap.drew {w : World} {B h : Nat} {v : Value} {xs : List Psh} {c : Int} (H : IsHeap w B h v xs c) : IsHeap w.drew B h v xs c := H.far rfl (fun _ _ => rfl)
theorem Kept.drew {B h : Nat} {v : Value} {w w' : World} (k : Kept B h v w w') : Kept B h v w w'.drew := ⟨k.below.drew, k.far⟩
theorem IsHeap.word_at {w : World} {B h : Nat} {v : Value} {xs : List Psh} {c : Int} (H : IsHeap w B h v xs c) {i : Nat} (hi : i < xs.length) : WordE (xs.getD i p0).e :=
  H.word _ (by rw [List.getD_eq_getElem?_getD, List.getElem?_eq_getElem hi]; exact List.getElem_mem _)
/-- Two of the row's, exchanged. -/
theorem swap_leaves {w : World} {B h g n cap i j : Nat} {xs : List Psh} {c : Int} {x y : Psh} (H : IsHeap w B h (.slice (some ⟨g, 0, none⟩) n cap) xs c) (hn : xs.length = n) (hi : i < n) (hj : j < n) (hx : xs.getD i p0 = x) (hy : xs.getD j p0 = y) :
    IsHeap (put7 (put7 w g i y) g j x).drew B h (.slice (some ⟨g, 0, none⟩) n cap) (swapG p0 xs i j) c ∧ Kept B h (.slice (some ⟨g, 0, none⟩) n cap) w (put7 (put7 w g i y) g j x).drew := by
  subst hx hy
  obtain ⟨a, b⟩ := put7_leaves H hn hi (H.word_at (i := j) (by omega))
  obtain ⟨a2, b2⟩ := put7_leaves a (by simpa using hn) hj (H.word_at (i := i) (by omega))
  exact ⟨a2.drew, (b.trans (Own.refl _ _) b2).drew⟩

theorem rowCells_take (xs : List Psh) (n : Nat) : rowCells (xs.take n) = (rowCells xs).take (n * 7) := by
  induction xs generalizing n with
  | nil => simp [rowCells]
  | cons d r ih =>
    have e : ∀ (d : Psh) r, rowCells (d :: r) = pshCells d ++ rowCells r := by intro d r; simp [rowCells]
    cases n with
    | zero => simp [rowCells]
    | succ n =>
      have hl : (pshCells d).length = 7 := rfl
      rw [List.take_succ_cons, e, e, ih, List.take_append, hl, List.take_of_length_le (l := pshCells d) (by rw [hl]; omega), show (n + 1) * 7 - 7 = n * 7 from by omega]
/-- 'h.l = h.l[:n]'. -/
theorem cut_leaves {w : World} {B h g m cap n : Nat} {xs : List Psh} {c : Int} (H : IsHeap w B h (.slice (some ⟨g, 0, none⟩) m cap) xs c) (hm : xs.length = m) (hn : n ≤ m) :
    IsHeap (w.setCell ⟨h, 0, none⟩ (.slice (some ⟨g, 0, none⟩) n cap)) B h (.slice (some ⟨g, 0, none⟩) n cap) (xs.take n) c ∧ Kept B h (.slice (some ⟨g, 0, none⟩) m cap) w (w.setCell ⟨h, 0, none⟩ (.slice (some ⟨g, 0, none⟩) n cap)) := by
  have hl : (xs.take n).length = n := by simp; omega
  have hgh := H.apart g rfl
  refine ⟨⟨H.blk.set_ 0 _, ?_, H.apart, H.base, fun p hp => H.word p (List.mem_of_mem_take hp)⟩, (Kept.refl _ _ _ _).set_ H.base 0 _⟩
  rw [hl]
  refine ⟨by rw [rowCells_length, hl], .inr ?_⟩
  rcases H.own.2 with ⟨h', _⟩ | ⟨g', cap', cur, h', hb, hg, hnc, hcm, hcs, htake⟩
  · simp at h'
  · simp only [Value.slice.injEq, Option.some.injEq, Addr.mk.injEq, and_true] at h'
    obtain ⟨rfl, _, rfl⟩ := h'
    refine ⟨g, cap, cur, rfl, hb, ?_, by omega, hcm, hcs, ?_⟩
    · rw [Below.heap_setCell _ _ _ _ hgh]; exact hg
    · rw [rowCells_take, ← htake, List.take_take, hm, Nat.min_eq_left (by omega)]
theorem Kept.blk {B h : Nat} {v : Value} {w w' : World} (k : Kept B h v w w') {g : Nat} {t : TypeId} {cs : Array Value} (b : Blk w g t cs) (h1 : g ≠ h) (h2 : v.ownBlock ≠ some g) : Blk w' g t cs := by
  unfold Blk
  rw [k.far g b.lt h1 h2]; exact b
/-- The least one under i. -/
theorem least_child {xs : List Psh} {n i k1 : Nat} {bb : Bool} (hn : xs.length = n) (h1 : 2 * i + 1 = k1) (h2 : k1 < n) (hb : bb = decide (k1 + 1 < n ∧ ordP (xs.getD (k1 + 1) p0) (xs.getD k1 p0) < 0)) (kk : Nat) (hk : kk = if bb then k1 + 1 else k1) :
    kk < n ∧ 0 < kk ∧ (kk - 1) / 2 = i ∧ ∀ j, 0 < j → j < xs.length → (j - 1) / 2 = i → leP (xs.getD kk p0) (xs.getD j p0) := by
  subst h1
  have hneg := ordP_neg (xs.getD (2 * i + 1 + 1) p0) (xs.getD (2 * i + 1) p0)
  cases bb
  · have hb2 := of_decide_eq_false hb.symm
    simp only [Bool.false_eq_true, if_false] at hk
    subst hk
    refine ⟨h2, by omega, by omega, fun j h0 hj he => ?_⟩
    have : j = 2 * i + 1 ∨ j = 2 * i + 1 + 1 := by omega
    rcases this with rfl | rfl
    · exact leP_refl _
    · have h3 : ¬ ordP (xs.getD (2 * i + 1 + 1) p0) (xs.getD (2 * i + 1) p0) < 0 := fun h => hb2 ⟨by omega, h⟩
      unfold leP; omega
  · obtain ⟨h3, h4⟩ := of_decide_eq_true hb.symm
    simp only [if_true] at hk
    subst hk
    refine ⟨h3, by omega, by omega, fun j h0 hj he => ?_⟩
    have : j = 2 * i + 1 ∨ j = 2 * i + 1 + 1 := by omega
    rcases this with rfl | rfl
    · unfold leP; omega
    · exact leP_refl _
/-- A store into a block that is none of the heap's. -/
theorem Kept.side {B h : Nat} {v : Value} {w w' : World} (k : Kept B h v w w') {g : Nat} (hB : B ≤ g) (hg : w.heap.size ≤ g) (i : Nat) (u : Value) : Kept B h v w (w'.setCell ⟨g, i, none⟩ u) :=
  ⟨k.below.setCell hB u, fun q hq h1 h2 => by rw [Below.heap_setCell _ _ _ _ (show q ≠ g by omega)]; exact k.far q hq h1 h2⟩
theorem IsHeap.side {w : World} {B h : Nat} {v : Value} {xs : List Psh} {c : Int} (H : IsHeap w B h v xs c) {g : Nat} (h1 : g ≠ h) (h2 : v.ownBlock ≠ some g) (i : Nat) (u : Value) : IsHeap (w.setCell ⟨g, i, none⟩ u) B h v xs c :=
  H.far (Below.heap_setCell _ _ _ _ (Ne.symm h1)) (fun q hq => Below.heap_setCell _ _ _ _ (show q ≠ g from fun e => h2 (by rw [← e]; exact hq)))

/-- What Push leaves. -/
def Pushed (B h : Nat) (v : Value) (xs : List Psh) (c : Int) (x : Ent) (w w' : World) : Prop :=
  ∃ v' xs', IsHeap w' B h v' xs' (c + 1) ∧ OrdG p0 leP xs' ∧ xs'.Perm (xs ++ [⟨x, c + 1⟩]) ∧ Kept B h v w w' ∧ Own v v' w

set_option maxHeartbeats 1000000 in
/-- (*Heap).less tells the order of two of the heap's. -/
theorem hless_at (B h g n cap : Nat) (xs : List Psh) (c : Int) (i k : Nat) (w : World) (H : IsHeap w B h (.slice (some ⟨g, 0, none⟩) n cap) xs c) (hn : xs.length = n) (hi : i < n) (hk : k < n) :
    Calls Try.prog 21 #[.pointer (some ⟨h, 0, none⟩), .int .i64 i, .int .i64 k] w fun e w' => e = .returned (.bool (decide (ordP (xs.getD i p0) (xs.getD k p0) < 0))) ∧ Below w.heap.size w w' := by
  subst hn
  obtain ⟨g', cap', hv, _, _, _, hc⟩ := H.at_ (by omega)
  simp only [Value.slice.injEq, Option.some.injEq, Addr.mk.injEq, and_true, true_and] at hv
  obtain ⟨rfl, rfl⟩ := hv
  have r0 := H.blk.cell 0
  simp at r0
  have wi : WordE (xs.getD i p0).e := H.word _ (by rw [List.getD_eq_getElem?_getD, List.getElem?_eq_getElem hi]; exact List.getElem_mem _)
  have wk : WordE (xs.getD k p0).e := H.word _ (by rw [List.getD_eq_getElem?_getD, List.getElem?_eq_getElem hk]; exact List.getElem_mem _)
  exact hlessAt_any h g xs.length cap i k _ _ _ _ _ _ _ _ _ _ _ _ _ _ wi.1 wi.2.1 wi.2.2 wk.1 wk.2.1 wk.2.2 w hi hk r0
    (hc i hi 0 _ rfl) (hc i hi 1 _ rfl) (hc i hi 2 _ rfl) (hc i hi 3 _ rfl) (hc i hi 4 _ rfl) (hc i hi 5 _ rfl) (hc i hi 6 _ rfl)
    (hc k hk 0 _ rfl) (hc k hk 1 _ rfl) (hc k hk 2 _ rfl) (hc k hk 3 _ rfl) (hc k hk 4 _ rfl) (hc k hk 5 _ rfl) (hc k hk 6 _ rfl)
/-- What Pop leaves. -/
def Popped (B h : Nat) (v : Value) (xs : List Psh) (c : Int) (w w' : World) : Prop :=
  ∃ v' xs', IsHeap w' B h v' xs' c ∧ OrdG p0 leP xs' ∧ (xs.getD 0 p0 :: xs').Perm xs ∧ Kept B h v w w' ∧ Own v v' w
end Go.Proofs.Ytamhngjhgdmgbaa
