/- Lists of fractions: the least of two lists together; such a list appended to another one. -/
import Derived.Test.YthamagnlpndnoaaDoorMin
import Derived.Test.YthamagnlpndnoaaDoorL2Math
import Derived.Test.YthamagnlpndnoaaDoorRText
namespace Go.Proofs.YthamagnlpndnoaaDoor
open Go.RowKit

theorem cmpT_neg (a b : D3) : cmpT b a = -cmpT a b := by unfold cmpT; rw [cmpD_cmpN, cmpD_cmpN, cmpN_neg]
theorem cmpT_self (a : D3) : cmpT a a = 0 := by unfold cmpT; rw [cmpD_cmpN, cmpN_self]
theorem cmpT_trans {a b c : D3} (ha : WordD a) (hb : WordD b) (hc : WordD c) (h1 : cmpT a b ≤ 0) (h2 : cmpT b c ≤ 0) : cmpT a c ≤ 0 := by
  unfold cmpT at *
  rw [cmpD_cmpN] at *
  exact (cmpN_trans ha.2.2.1 hb.2.2.1 hc.2.2.1 h1 h2).1
theorem minD_le {a b : D3} : cmpT (minD a b) a ≤ 0 ∧ cmpT (minD a b) b ≤ 0 := by
  have e := cmpT_neg a b
  unfold minD
  split
  · exact ⟨by omega, by rw [cmpT_self]; omega⟩
  · exact ⟨by rw [cmpT_self]; omega, by omega⟩
theorem minD_assoc {x e f : D3} (hx : WordD x) (he : WordD e) (hf : WordD f) : minD (minD x e) f = minD x (minD e f) := by
  have n1 := cmpT_neg x e
  have n2 := cmpT_neg e f
  have n3 := cmpT_neg x f
  have t1 := @cmpT_trans x f e hx hf he
  have t2 := @cmpT_trans x e f hx he hf
  have t3 := @cmpT_trans f e x hf he hx
  have t4 := @cmpT_trans e x f he hx hf
  have t5 := @cmpT_trans e f x he hf hx
  unfold minD
  by_cases h1 : cmpT e x < 0
  · rw [if_pos h1]
    by_cases h2 : cmpT f e < 0
    · rw [if_pos h2, if_pos (by omega)]
    · rw [if_neg h2, if_pos h1]
  · rw [if_neg h1]
    by_cases h2 : cmpT f e < 0
    · rw [if_pos h2]
    · rw [if_neg h2, if_neg h1, if_neg (by omega)]
theorem foldl_minD {x e : D3} {s : List D3} (hx : WordD x) (he : WordD e) (hs : ∀ d ∈ s, WordD d) : s.foldl minD (minD x e) = minD x (s.foldl minD e) := by
  induction s generalizing e with
  | nil => rfl
  | cons f s ih =>
    simp only [List.foldl_cons]
    have hf := hs f List.mem_cons_self
    rw [minD_assoc hx he hf]
    exact ih (minD_word he hf) (fun d hd => hs d (List.mem_cons_of_mem _ hd))
theorem minL_append {l r : List D3} (h1 : l ≠ []) (h2 : r ≠ []) (hl : ∀ d ∈ l, WordD d) (hr : ∀ d ∈ r, WordD d) : minL (l ++ r) = minD (minL l) (minL r) := by
  have hw := minL_word hl
  cases l with
  | nil => exact absurd rfl h1
  | cons d l =>
    cases r with
    | nil => exact absurd rfl h2
    | cons e r =>
      simp only [minL, List.cons_append, List.foldl_append, List.foldl_cons]
      exact foldl_minD hw (hr e List.mem_cons_self) (fun x hx => hr x (List.mem_cons_of_mem _ hx))
theorem minL_le {l : List D3} (hl : ∀ d ∈ l, WordD d) : ∀ d ∈ l, cmpT (minL l) d ≤ 0 := by
  cases l with
  | nil => intro d h; cases h
  | cons x r =>
    unfold minL
    have hx := hl x List.mem_cons_self
    have hr : ∀ d ∈ r, WordD d := fun d h => hl d (List.mem_cons_of_mem _ h)
    clear hl
    induction r generalizing x with
    | nil => intro d hd; simp at hd; subst hd; simp [cmpT_self]
    | cons e r ih =>
      have he := hr e List.mem_cons_self
      have hm := minD_word hx he
      have hr' : ∀ d ∈ r, WordD d := fun d h => hr d (List.mem_cons_of_mem _ h)
      have hi := ih (minD x e) hm hr'
      have hF := minL_word (l := minD x e :: r) (fun d hd => by rcases List.mem_cons.1 hd with rfl | h; exact hm; exact hr' d h)
      have h0 := hi _ List.mem_cons_self
      intro d hd
      simp only [List.foldl_cons] at *
      rcases List.mem_cons.1 hd with rfl | hd
      · exact cmpT_trans hF hm hx h0 minD_le.1
      · rcases List.mem_cons.1 hd with rfl | hd
        · exact cmpT_trans hF hm he h0 minD_le.2
        · exact hi d (List.mem_cons_of_mem _ hd)
theorem minL_not {l : List D3} (hl : ∀ d ∈ l, WordD d) {d : D3} (hd : d ∈ l) : ¬ cmpT d (minL l) < 0 := by
  have := minL_le hl d hd
  have := cmpT_neg (minL l) d
  omega

/-- The cells of such a list, one behind the other. -/
def distCells (l : List D3) : List Value := l.flatMap (fun d => [.int .u64 d.1, .int .u64 d.2.1, .int .u64 d.2.2])
theorem distCells_length (l : List D3) : (distCells l).length = l.length * 3 := by
  induction l with
  | nil => rfl
  | cons d r ih => simp only [distCells, List.flatMap_cons, List.length_append, List.length_cons, List.length_nil] at *; omega
theorem distCells_append (l r : List D3) : distCells (l ++ r) = distCells l ++ distCells r := by simp [distCells]
theorem distCells_one {l : List D3} {u : Value} (h : u ∈ distCells l) : u.oneCell' = true := by
  simp [distCells] at h
  obtain ⟨a, b, c, _, rfl | rfl | rfl⟩ := h <;> rfl
theorem distCells_at (l : List D3) : ∀ i, i < l.length → (distCells l)[i * 3]? = some (.int .u64 (l.getD i d30).1) ∧ (distCells l)[i * 3 + 1]? = some (.int .u64 (l.getD i d30).2.1) ∧ (distCells l)[i * 3 + 2]? = some (.int .u64 (l.getD i d30).2.2) := by
  induction l with
  | nil => intro i h; simp at h
  | cons d r ih =>
    intro i hi
    have e : distCells (d :: r) = .int .u64 d.1 :: .int .u64 d.2.1 :: .int .u64 d.2.2 :: distCells r := by simp [distCells]
    cases i with
    | zero => rw [e]; simp
    | succ i =>
      obtain ⟨a, b, c⟩ := ih i (by simpa using hi)
      rw [e, show (i + 1) * 3 = i * 3 + 3 from by omega]
      refine ⟨?_, ?_, ?_⟩ <;> simpa using (by assumption)
theorem distCells_of {w : World} {b off : Nat} {l : List D3} (h : DistsFrom w b off l) : ∀ (j : Nat) (u : Value), (distCells l)[j]? = some u → w.cell? ((⟨b, off, none⟩ : Addr).add j) = some u := by
  intro j u hu
  have hj : j < l.length * 3 := by
    rw [← distCells_length]
    exact (List.getElem?_eq_some_iff.1 hu).1
  obtain ⟨a, c, d⟩ := h (j / 3) (by omega)
  obtain ⟨a', c', d'⟩ := distCells_at l (j / 3) (by omega)
  have ea : (⟨b, off, none⟩ : Addr).add j = ⟨b, off + j, none⟩ := by unfold Addr.add; split <;> simp_all
  rw [ea]
  have : j = j / 3 * 3 ∨ j = j / 3 * 3 + 1 ∨ j = j / 3 * 3 + 2 := by omega
  rcases this with e | e | e
  · rw [e] at hu ⊢; rw [a'] at hu; rw [← hu, ← a]
  · rw [e] at hu ⊢; rw [c'] at hu; rw [← hu, ← c]; simp only [Nat.add_assoc]
  · rw [e] at hu ⊢; rw [d'] at hu; rw [← hu, ← d]; simp only [Nat.add_assoc]
theorem isDists_own {w : World} {base : Nat} {v : Value} {l : List D3} (h : w.ownsRow base 24 3 v l.length (distCells l)) (hw : ∀ d ∈ l, WordD d) : IsDists w v l := by
  refine ⟨?_, hw⟩
  rcases Nat.eq_zero_or_pos l.length with h0 | hp
  · rcases h.2 with ⟨rfl, _⟩ | ⟨g, cap, cur, rfl, _⟩
    · exact ⟨none, 0, by rw [h0], fun hp => by omega⟩
    · exact ⟨_, cap, rfl, fun hp => by omega⟩
  · obtain ⟨g, cap, rfl, hb, hl⟩ := h.form hp
    refine ⟨_, cap, rfl, fun _ => ⟨g, 0, rfl, hl, fun i hi => ?_⟩⟩
    obtain ⟨a, b, c⟩ := distCells_at l i hi
    have hc := h.cells (g := g) rfl
    have ea : ∀ k, (⟨g, 0, none⟩ : Addr).add k = ⟨g, 0 + k, none⟩ := by intro k; unfold Addr.add; split <;> simp_all
    have a1 := hc _ _ a
    have b1 := hc _ _ b
    have c1 := hc _ _ c
    rw [ea] at a1 b1 c1
    exact ⟨a1, by rw [← b1, Nat.add_assoc], by rw [← c1, Nat.add_assoc]⟩

theorem info_dist : (Tryd.prog.info? 24).map (fun i => (i.zero, i.size, i.bytes)) = some (some (.agg #[.int .u64 0, .int .u64 0, .int .u64 0]), 3, 24) := by kernel_rfl

/-- What append makes of an own row and a list behind it. -/
def JoinedD (B : Nat) (W : World) (l : List D3) (v' : Value) (w' : World) : Prop := w'.ownsRow B 24 3 v' l.length (distCells l) ∧ Below B W w'
theorem run_append_dists (W : World) (ty : TypeId) (B : Nat) (v u : Value) (l r : List D3) (hv : W.ownsRow B 24 3 v l.length (distCells l)) (hu : IsDists W u r) (hr : 0 < r.length) (hm : l.length + r.length ≤ 1000) (hB : B ≤ W.heap.size) :
    ∃ v' w', (Builtin.append_ #[47, 47] ty #[v, u]).run Tryd.prog W = .ok v' w' ∧ JoinedD B W (l ++ r) v' w' := by
  obtain ⟨i, hi0, hz0, hz1, hz2⟩ := info_parts info_dist
  obtain ⟨⟨a, cap, rfl, hf⟩, _⟩ := hu
  obtain ⟨b, off, rfl, _, hc⟩ := hf hr
  obtain ⟨v', w', h1, h2, h3, _⟩ := run_append_own (P := Tryd.prog) W B 47 ty 24 i (.agg #[.int .u64 0, .int .u64 0, .int .u64 0]) 3 24 Tryd.underlying47 hi0 hz0 hz1 hz2 rfl (by decide) v l.length (distCells l) hv ⟨b, off, none⟩ r.length cap (distCells r) (distCells_length r) (distCells_of hc) (fun u hu => distCells_one hu) (by unfold maxLen; omega) (by omega) hB
  refine ⟨v', w', h1, ?_, (Below.refl _ _).grown h3 hB (fun k hk => (hv.lt k hk).1)⟩
  rw [List.length_append, distCells_append]
  exact h2

/-- Two fractions as a call lays them. -/
theorem minPair_any (g : Nat) (x0 x1 x2 y0 y1 y2 : Int) (w : World) (hx : WordD (x0, x1, x2)) (hy : WordD (y0, y1, y2)) (hg : g < w.heap.size)
    (c0 : w.cell? ⟨g, 0, none⟩ = some (.int .u64 x0)) (c1 : w.cell? ⟨g, 1, none⟩ = some (.int .u64 x1)) (c2 : w.cell? ⟨g, 2, none⟩ = some (.int .u64 x2))
    (c3 : w.cell? ⟨g, 3, none⟩ = some (.int .u64 y0)) (c4 : w.cell? ⟨g, 4, none⟩ = some (.int .u64 y1)) (c5 : w.cell? ⟨g, 5, none⟩ = some (.int .u64 y2)) :
    Calls Tryd.prog 21 #[.slice (some ⟨g, 0, none⟩) 2 2] w fun e w' => e = .returned (.agg #[.int .u64 ((minD (x0, x1, x2) (y0, y1, y2)).1), .int .u64 ((minD (x0, x1, x2) (y0, y1, y2)).2.1), .int .u64 ((minD (x0, x1, x2) (y0, y1, y2)).2.2)]) ∧ Below w.heap.size w w' :=
  min_any _ [(x0, x1, x2), (y0, y1, y2)] w ⟨⟨_, 2, rfl, fun _ => ⟨g, 0, rfl, hg, fun i hi => by
    match i, hi with
    | 0, _ => exact ⟨c0, c1, c2⟩
    | 1, _ => exact ⟨c3, c4, c5⟩⟩⟩, fun d hd => by
    simp at hd
    rcases hd with rfl | rfl
    · exact hx
    · exact hy⟩ (by simp)
theorem minNone_any (w : World) : Calls Tryd.prog 21 #[.slice none 0 0] w fun e w' => e = .returned (.agg #[.int .u64 0, .int .u64 0, .int .u64 0]) ∧ Below w.heap.size w w' :=
  min_any _ [] w ⟨⟨none, 0, rfl, fun h => absurd h (by decide)⟩, fun _ h => by cases h⟩ (by simp)
end Go.Proofs.YthamagnlpndnoaaDoor
