/- pergolaref14.Heap: an entry behind the others; same; both heaps side by side. -/
import Derived.Test.YtamhngjhgdmgbaaHeapGP
import Derived.Test.YtamhngjhgdmgbaaHeapGT
import Derived.Test.YtamhngjhgdmgbaaHeapK
namespace Go.Proofs.Ytamhngjhgdmgbaa
open Go.RowKit

/-- What is known behind 'm.L = append(m.L, x)'. -/
theorem ref_append {B m : Nat} {v : Value} {w W w1 : World} {es : List Ent} {x : Ent} {g cap n : Nat} (R : IsRef w B m v es) (hn : n = es.length + 1)
    (kW : Kept B m v w W) (hb : Blk W m 29 #[v]) (hx : WordE x)
    (hown : w1.ownsRow B 36 6 (.slice (some ⟨g, 0, none⟩) n cap) n (entRow es ++ entCells x))
    (hg : W.grownBy w1 v.ownBlock) (ha : v.ownBlock = some g ∨ g = W.heap.size) :
    IsRef (w1.setCell ⟨m, 0, none⟩ (.slice (some ⟨g, 0, none⟩) n cap)) B m (.slice (some ⟨g, 0, none⟩) n cap) (es ++ [x]) ∧
    Kept B m v w (w1.setCell ⟨m, 0, none⟩ (.slice (some ⟨g, 0, none⟩) n cap)) ∧ Own v (.slice (some ⟨g, 0, none⟩) n cap) w := by
  have hl := R.blk.lt
  have hs := kW.below.size
  have hgh : g ≠ m := by
    rcases ha with e | e
    · exact R.apart g e
    · omega
  have hb1 : Blk w1 m 29 #[v] := by
    unfold Blk
    rw [hg.block m (by omega) (fun e => R.apart m e.symm rfl)]
    exact hb
  have e1 : entRow (es ++ [x]) = entRow es ++ entCells x := by rw [entRow_append]; simp [entRow]
  have e2 : (es ++ [x]).length = n := by simp [hn]
  refine ⟨⟨?_, ?_, ?_, R.base, ?_⟩, ?_, ?_⟩
  · exact hb1.set_ 0 _
  · rw [e1, e2]
    exact own_far hown (fun g' hg' => by simp [Value.ownBlock] at hg'; subst hg'; exact Below.heap_setCell _ _ _ _ hgh)
  · intro g' hg'; simp [Value.ownBlock] at hg'; subst hg'; exact hgh
  · intro p hp
    rcases List.mem_append.1 hp with hp | hp
    · exact R.word p hp
    · simp at hp; subst hp; exact hx
  · refine Kept.set_ ⟨kW.below.trans ⟨hg.os, hg.tape, hg.output, hg.size, fun k hk => hg.block k (by have := R.base; omega) (fun e => by have := (R.own_lt e.symm).1; omega)⟩, fun g' hg' n1 n2 => ?_⟩ R.base 0 _
    rw [hg.block g' (by omega) (fun e => n2 e.symm)]
    exact kW.far g' hg' n1 n2
  · intro g' hg'
    simp [Value.ownBlock] at hg'
    subst hg'
    rcases ha with e | e
    · exact .inl e
    · exact .inr (by omega)

theorem Sep.stepR {w : World} {B ha hb : Nat} {va va' vb : Value} {es : List Ent} (s : Sep ha hb va vb) (o : Own va va' w) (Rb : IsRef w B hb vb es) : Sep ha hb va' vb := by
  refine ⟨s.ne, fun e => ?_, s.b, fun g e e2 => ?_⟩
  · rcases o _ e with h | h
    · exact s.a h
    · have := Rb.blk.lt; omega
  · rcases o _ e with h | h
    · exact s.own g h e2
    · have := (Rb.own_lt e2).2; omega
theorem Sep.keepR {w w' : World} {B ha hb : Nat} {va vb : Value} {es : List Ent} (s : Sep ha hb va vb) (Rb : IsRef w B hb vb es) (k : Kept B ha va w w') : IsRef w' B hb vb es :=
  Rb.beside k (Ne.symm s.ne) s.a (fun g hg => ⟨fun e => s.b (by rw [hg, e]), fun e => s.own g e hg⟩)

set_option maxHeartbeats 1000000 in
theorem same_any (x : Ent) (w : World) :
    Calls Try.prog 14 #[.agg #[.int .i64 x.id, .int .u64 x.hi, .int .u64 x.lo, .int .u64 x.den, .bool x.item, .int .i64 x.node], .agg #[.int .i64 x.id, .int .u64 x.hi, .int .u64 x.lo, .int .u64 x.den, .bool x.item, .int .i64 x.node]] w fun e w' => e = .returned (.bool true) ∧ Below w.heap.size w w' := by
  go_enter Try.func14, Try.ntmps14
  go_wp2
  go_ret
  exact ⟨rfl, by (repeat' (first | (with_reducible exact Below.refl _ _) | (with_reducible assumption) | (with_reducible refine Below.alloc ?_ ?_ _) | (with_reducible refine Below.drew ?_) | (with_reducible refine drewN_below ?_ _) | (with_reducible refine Below.setCell ?_ ?_ _) | (with_reducible refine below_call (by with_reducible assumption) ?_ ?_) | (first | (with_reducible exact Nat.le_refl _) | (with_reducible assumption) | omega | (simp; done) | (simp; omega))))⟩

/-- Both heaps hold the same entries, the reference in the order of pushing. -/
def St (w0 : World) (B h m i : Nat) (wr : World) : Prop :=
  ∃ (c : Int) (vH : Value) (l : List Psh) (vR : Value), HeapOf wr B h vH l c ∧ IsRef wr B m vR (l.map (·.e)) ∧ Sep h m vH vR ∧ (0 ≤ c ∧ c ≤ i) ∧ l.length ≤ i ∧ l.Pairwise (fun a b => a.c < b.c) ∧ (∀ p ∈ l, p.c ≤ c) ∧ Below B w0 wr

theorem eraseIdx_map' (l : List Psh) (k : Nat) : (l.map (·.e)).eraseIdx k = (l.eraseIdx k).map (·.e) := by
  rw [List.eraseIdx_eq_take_drop_succ, List.eraseIdx_eq_take_drop_succ, List.map_append, List.map_take, List.map_drop]
/-- What is left where the first one is taken out. -/
def restL (l : List Psh) : List Psh := l.eraseIdx (topF (l.map (·.e)) (l.map (·.e)).length)
/-- What is popped is what the reference takes out. -/
theorem popped_is {l : List Psh} {p : Psh} (hp : Least p l) (hw : ∀ q ∈ l, WordE q.e) (hc : l.Pairwise (fun a b => a.c < b.c)) : (l.map (·.e)).getD (topF (l.map (·.e)) (l.map (·.e)).length) e0 = p.e ∧ ∀ l', (p :: l').Perm l → l'.Perm (restL l) := by
  have hl : 0 < l.length := by
    cases l with
    | nil => cases hp.1
    | cons a t => simp
  have hm : (l.map (·.e)).length = l.length := by simp
  unfold restL
  rw [hm]
  have h1 := topF_Least hw hc hl
  have h2 := hp.same h1 (pw_ne hc)
  have hk := topF_le (l.map (·.e)) l.length l.length (Nat.le_refl _) hl
  refine ⟨by rw [map_getD, ← h2], fun l' hl' => ?_⟩
  have e : l.getD (topF (l.map (·.e)) l.length) p0 = l[topF (l.map (·.e)) l.length] := by rw [List.getD_eq_getElem?_getD, List.getElem?_eq_getElem hk]; rfl
  rw [h2, e] at hl'
  exact perm_erase hk hl'
/-- What both tell of l: nothing, or the first one's entry. -/
def Tp (l : List Psh) (x : Ent) (bb : Bool) : Prop := (l = [] ∧ x = e0 ∧ bb = false) ∨ (∃ p, Least p l ∧ x = p.e ∧ bb = true)
theorem topB_any (B h : Nat) (v : Value) (l : List Psh) (c : Int) (w : World) (H : HeapOf w B h v l c) :
    Calls Try.prog 15 #[.pointer (some ⟨h, 0, none⟩)] w fun e w' => ∃ x bb, e = .returned (.tuple #[.agg #[.int .i64 x.id, .int .u64 x.hi, .int .u64 x.lo, .int .u64 x.den, .bool x.item, .int .i64 x.node], .bool bb]) ∧ Tp l x bb ∧ Below w.heap.size w w' := by
  cases l with
  | nil => exact (topH_none B h v c w H).mono fun e w' ⟨he, hB⟩ => ⟨e0, false, he, .inl ⟨rfl, rfl, rfl⟩, hB⟩
  | cons a t => exact (topH_some B h v _ c w H (by simp)).mono fun e w' ⟨p, he, hp, hB⟩ => ⟨p.e, true, he, .inr ⟨p, hp, rfl, rfl⟩, hB⟩
theorem rTopB_any (B m : Nat) (v : Value) (l : List Psh) (x : Ent) (bb : Bool) (w : World) (R : IsRef w B m v (l.map (·.e))) (hT : Tp l x bb) (hw : ∀ q ∈ l, WordE q.e) (hc : l.Pairwise (fun a b => a.c < b.c)) (hl : l.length ≤ 1000) :
    Calls Try.prog 16 #[.pointer (some ⟨m, 0, none⟩)] w fun e w' => e = .returned (.tuple #[.agg #[.int .i64 x.id, .int .u64 x.hi, .int .u64 x.lo, .int .u64 x.den, .bool x.item, .int .i64 x.node], .bool bb]) ∧ Below w.heap.size w w' := by
  rcases hT with ⟨rfl, rfl, rfl⟩ | ⟨p, hp, rfl, rfl⟩
  · exact rTop_none B m v w R
  · have hp0 : 0 < l.length := by
      cases l with
      | nil => cases hp.1
      | cons a t => simp
    exact rTop_some B m v _ w R (by simpa using hp0) (by simpa using hl) _ (popped_is hp hw hc).1
theorem popB_any (B h : Nat) (v : Value) (l : List Psh) (c : Int) (w : World) (H : HeapOf w B h v l c) (hc : l.Pairwise (fun a b => a.c < b.c)) (hl : l.length ≤ 1000) :
    Calls Try.prog 12 #[.pointer (some ⟨h, 0, none⟩)] w fun e w' => ∃ x bb v', e = .returned (.tuple #[.agg #[.int .i64 x.id, .int .u64 x.hi, .int .u64 x.lo, .int .u64 x.den, .bool x.item, .int .i64 x.node], .bool bb]) ∧ Tp l x bb ∧ HeapOf w' B h v' (restL l) c ∧ Kept B h v w w' ∧ Own v v' w := by
  cases l with
  | nil => exact (popH_none B h v c w H).mono fun e w' ⟨he, hB⟩ => ⟨e0, false, v, he, .inl ⟨rfl, rfl, rfl⟩, H.grow hB, Kept.of_below hB (by have := H.lt; have := H.base; omega), Own.refl _ _⟩
  | cons a t => exact (popH_some B h v _ c w H (by simp) hl).mono fun e w' ⟨p, l', v', he, hp, hq, hH, hk, ho⟩ => ⟨p.e, true, v', he, .inr ⟨p, hp, rfl, rfl⟩, hH.perm ((popped_is hp H.word hc).2 l' hq), hk, ho⟩
theorem rPopB_any (B m : Nat) (v : Value) (l : List Psh) (x : Ent) (bb : Bool) (w : World) (R : IsRef w B m v (l.map (·.e))) (hT : Tp l x bb) (hw : ∀ q ∈ l, WordE q.e) (hc : l.Pairwise (fun a b => a.c < b.c)) (hl : l.length ≤ 1000) :
    Calls Try.prog 13 #[.pointer (some ⟨m, 0, none⟩)] w fun e w' => e = .returned (.tuple #[.agg #[.int .i64 x.id, .int .u64 x.hi, .int .u64 x.lo, .int .u64 x.den, .bool x.item, .int .i64 x.node], .bool bb]) ∧
      ∃ v', IsRef w' B m v' ((restL l).map (·.e)) ∧ Kept B m v w w' ∧ Own v v' w := by
  rcases hT with ⟨rfl, rfl, rfl⟩ | ⟨p, hp, rfl, rfl⟩
  · exact (rPop_none B m v w R).mono fun e w' ⟨he, hB⟩ => ⟨he, v, R.grow hB, Kept.of_below hB (by have := R.blk.lt; have := R.base; omega), Own.refl _ _⟩
  · have hp0 : 0 < l.length := by
      cases l with
      | nil => cases hp.1
      | cons a t => simp
    refine (rPop_some B m v _ w R (by simpa using hp0) (by simpa using hl) _ (popped_is hp hw hc).1 _ rfl).mono fun e w' ⟨he, v', h1, h2, h3⟩ => ⟨he, v', ?_, h2, h3⟩
    rw [eraseIdx_map'] at h1
    exact h1
theorem restL_sub (l : List Psh) : (restL l).Sublist l := List.eraseIdx_sublist _ _
theorem restL_length (l : List Psh) : (restL l).length ≤ l.length := (restL_sub l).length_le
end Go.Proofs.Ytamhngjhgdmgbaa
