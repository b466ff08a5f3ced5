/- pergolalaw15: HeapTurns' closure; two heaps side by side. -/
import Derived.Test.YtamhngjhgdmgbaaHeapL
namespace Go.Proofs.Ytamhngjhgdmgbaa
open Go.RowKit

/-- The i-th entry of HeapTurns. -/
def tE (l : List Int) (i : Nat) : Ent := ⟨i, 0, (l.getD i 0).tmod 5 * (l.getD i 0).tmod 5, 1, decide (0 < (i : Int).tmod 3), i⟩
theorem sq5 (x : Int) : 0 ≤ x.tmod 5 * x.tmod 5 ∧ x.tmod 5 * x.tmod 5 ≤ 16 := by
  have h1 : -4 ≤ x.tmod 5 ∧ x.tmod 5 ≤ 4 := by
    have := Int.tmod_lt_of_pos x (b := 5) (by omega)
    have := Int.lt_tmod_of_pos x (b := 5) (by omega)
    omega
  generalize x.tmod 5 = n at *
  have : n = -4 ∨ n = -3 ∨ n = -2 ∨ n = -1 ∨ n = 0 ∨ n = 1 ∨ n = 2 ∨ n = 3 ∨ n = 4 := by omega
  rcases this with h | h | h | h | h | h | h | h | h <;> subst h <;> decide
theorem tE_word (l : List Int) (i : Nat) : WordE (tE l i) := by
  have := sq5 (l.getD i 0)
  unfold WordE tE Word
  simp only
  omega
theorem tE_same {l : List Int} {i j : Nat} (h : cmpEn (tE l i) (tE l j) = 0) : i = j := by
  unfold cmpEn cmpE at h
  rw [or3, or2] at h
  split at h
  · rw [or2] at h
    split at h
    · have := cmpV_zero.1 h
      have e : ∀ k, numE (tE l k).id (tE l k).item (tE l k).node = (k : Int) := by
        intro k
        show (if decide (0 < (k : Int).tmod 3) = true then (k : Int) else (k : Int)) = k
        cases decide (0 < (k : Int).tmod 3) <;> rfl
      rw [e, e] at this
      omega
    · contradiction
  · contradiction

set_option maxHeartbeats 1000000 in
theorem closure_any (l : List Int) (v : Value) (bx : Nat) (i : Nat) (w : World) (hl : IsInts w v l) (hb : w.cell? ⟨bx, 0, none⟩ = some v) (hi : i < l.length) (hm : l.length ≤ 100) :
    Calls Try.prog 18 #[.int .i64 i, .pointer (some ⟨bx, 0, none⟩)] w fun e w' => e = .returned (.agg #[.int .i64 (tE l i).id, .int .u64 (tE l i).hi, .int .u64 (tE l i).lo, .int .u64 (tE l i).den, .bool (tE l i).item, .int .i64 (tE l i).node]) ∧ Below w.heap.size w w' := by
  obtain ⟨⟨a, cap, rfl, hf⟩, -⟩ := hl
  obtain ⟨b, off, rfl, hbl, hc⟩ := hf (by omega)
  have c0 := hc i hi 0 _ rfl
  simp only [Nat.mul_one, Nat.add_zero] at c0
  have hsq := sq5 (l.getD i 0)
  simp only [tE]
  generalize l.getD i 0 = x at *
  have h1 : -4 ≤ x.tmod 5 ∧ x.tmod 5 ≤ 4 := by
    have := Int.tmod_lt_of_pos x (b := 5) (by omega)
    have := Int.lt_tmod_of_pos x (b := 5) (by omega)
    omega
  have h2 : 0 ≤ (i : Int).tmod 3 ∧ (i : Int).tmod 3 < 3 := ⟨Int.tmod_nonneg 3 (by omega), Int.tmod_lt_of_pos _ (by omega)⟩
  have hin : (i : Int) < (l.length : Int) := by omega
  obtain ⟨n, hn⟩ : ∃ n, x.tmod 5 = n := ⟨_, rfl⟩
  obtain ⟨t, ht⟩ : ∃ t, (i : Int).tmod 3 = t := ⟨_, rfl⟩
  rw [hn] at h1 hsq
  rw [ht] at h2
  rw [hn, ht]
  obtain ⟨m, hm2⟩ : ∃ m, n * n = m := ⟨_, rfl⟩
  rw [hm2] at hsq
  rw [hm2]
  have w1 := IntWalk.i64_in (n := n) (by omega)
  have w2 := IntWalk.i64_in (n := m) (by omega)
  have w3 := IntWalk.i64_in (n := t) (by omega)
  have w4 : IntKind.u64.wrap m = m := by rw [IntKind.wrap_u64]; omega
  clear hf hc hi
  generalize l.length = len at *
  go_enter Try.func18, Try.ntmps18
  go_wp2
  exact bodyPost_ret (v := .agg #[.int .i64 i, .int .u64 0, .int .u64 m, .int .u64 1, .bool (decide (0 < t)), .int .i64 i]) (by simp [*, results, Try.results18, go_sem]) rfl ⟨rfl, by (repeat' (first | (with_reducible exact Below.refl _ _) | (with_reducible assumption) | (with_reducible refine Below.alloc ?_ ?_ _) | (with_reducible refine Below.drew ?_) | (with_reducible refine drewN_below ?_ _) | (with_reducible refine Below.setCell ?_ ?_ _) | (with_reducible refine below_call (by with_reducible assumption) ?_ ?_) | (first | (with_reducible exact Nat.le_refl _) | (with_reducible assumption) | omega | (simp; done) | (simp; omega))))⟩

theorem HeapOf.mono_base {w : World} {B B' h : Nat} {v : Value} {l : List Psh} {c : Int} (H : HeapOf w B h v l c) (hb : B' ≤ B) : HeapOf w B' h v l c := by
  obtain ⟨xs, a, b, e⟩ := H
  exact ⟨xs, ⟨a.blk, own_mono a.own hb, a.apart, Nat.le_trans hb a.base, a.word⟩, b, e⟩

/-- Two heaps that share no memory. -/
structure Sep (ha hb : Nat) (va vb : Value) : Prop where
  ne : ha ≠ hb
  a : va.ownBlock ≠ some hb
  b : vb.ownBlock ≠ some ha
  own : ∀ g, va.ownBlock = some g → vb.ownBlock ≠ some g
theorem Sep.symm {ha hb : Nat} {va vb : Value} (s : Sep ha hb va vb) : Sep hb ha vb va := ⟨Ne.symm s.ne, s.b, s.a, fun g h1 h2 => s.own g h2 h1⟩
theorem Sep.step {w : World} {B ha hb : Nat} {va va' vb : Value} {lb : List Psh} {cb : Int} (s : Sep ha hb va vb) (o : Own va va' w) (Hb : HeapOf w B hb vb lb cb) : Sep ha hb va' vb := by
  refine ⟨s.ne, fun e => ?_, s.b, fun g e e2 => ?_⟩
  · rcases o _ e with h | h
    · exact s.a h
    · have := Hb.lt; omega
  · rcases o _ e with h | h
    · exact s.own g h e2
    · have := (Hb.own_lt e2).2; omega
/-- What a method of one heap leaves of the other. -/
theorem Sep.keep {w w' : World} {B ha hb : Nat} {va vb : Value} {lb : List Psh} {cb : Int} (s : Sep ha hb va vb) (Hb : HeapOf w B hb vb lb cb) (k : Kept B ha va w w') : HeapOf w' B hb vb lb cb :=
  Hb.beside k (Ne.symm s.ne) s.a (fun g hg => ⟨fun e => s.b (by rw [hg, e]), fun e => s.own g e hg⟩)
/-- Two least ones of the same entries are the same entry. -/
theorem turns_same {l : List Int} {la lb : List Psh} {p q : Psh} (hp : Least p la) (hq : Least q lb) (hm : (la.map (·.e)).Perm (lb.map (·.e))) (ht : ∀ x ∈ la, ∃ k, x.e = tE l k) : p.e = q.e := by
  have h1 : p.e ∈ lb.map (·.e) := hm.mem_iff.1 (List.mem_map_of_mem hp.1)
  have h2 : q.e ∈ la.map (·.e) := hm.mem_iff.2 (List.mem_map_of_mem hq.1)
  obtain ⟨p', hp', e1⟩ := List.mem_map.1 h1
  obtain ⟨q', hq', e2⟩ := List.mem_map.1 h2
  have c1 := leP_cmp (hp.2 q' hq')
  have c2 := leP_cmp (hq.2 p' hp')
  rw [e2] at c1
  rw [e1] at c2
  obtain ⟨i, hi⟩ := ht p hp.1
  obtain ⟨j, hj⟩ := ht q' hq'
  rw [e2] at hj
  rw [hi, hj] at c1 c2 ⊢
  have := cmpEn_neg (tE l i) (tE l j)
  rw [tE_same (l := l) (i := i) (j := j) (by omega)]
theorem turns_rest {la lb la' lb' : List Psh} {p q : Psh} (hm : (la.map (·.e)).Perm (lb.map (·.e))) (h1 : (p :: la').Perm la) (h2 : (q :: lb').Perm lb) (he : p.e = q.e) : (la'.map (·.e)).Perm (lb'.map (·.e)) := by
  have a := ((h1.map (·.e)).trans hm).trans (h2.map (·.e)).symm
  simp only [List.map_cons, he] at a
  exact a.cons_inv
/-- The entries of both, pushed from both ends. -/
def tA (l : List Int) : Nat → List Psh
  | 0 => []
  | i + 1 => tA l i ++ [⟨tE l i, (i : Int) + 1⟩]
def tB (l : List Int) (n : Nat) : Nat → List Psh
  | 0 => []
  | i + 1 => tB l n i ++ [⟨tE l (n - 1 - i), (i : Int) + 1⟩]
theorem tA_length (l : List Int) (i : Nat) : (tA l i).length = i := by
  induction i with
  | zero => rfl
  | succ i ih => simp [tA, ih]
theorem tB_length (l : List Int) (n i : Nat) : (tB l n i).length = i := by
  induction i with
  | zero => rfl
  | succ i ih => simp [tB, ih]
theorem tA_map (l : List Int) (n : Nat) : (tA l n).map (·.e) = (List.range n).map (tE l) := by
  induction n with
  | zero => rfl
  | succ n ih => simp [tA, ih, List.range_succ]
theorem tB_map (l : List Int) (n i : Nat) : (tB l n i).map (·.e) = (List.range i).map (fun k => tE l (n - 1 - k)) := by
  induction i with
  | zero => rfl
  | succ i ih => simp [tB, ih, List.range_succ]
theorem range_rev (n : Nat) : (List.range n).map (fun k => n - 1 - k) = (List.range n).reverse := by
  apply List.ext_getElem
  · simp
  · intro i h1 h2
    simp
theorem turns_start (l : List Int) (n : Nat) : ((tA l n).map (·.e)).Perm ((tB l n n).map (·.e)) := by
  rw [tA_map, tB_map]
  have e : (List.range n).map (fun k => tE l (n - 1 - k)) = ((List.range n).map (fun k => n - 1 - k)).map (tE l) := by simp
  rw [e, range_rev]
  exact (List.reverse_perm _).symm.map _
theorem tA_form (l : List Int) (n : Nat) : ∀ x ∈ tA l n, ∃ k, x.e = tE l k := by
  intro x hx
  have : x.e ∈ (tA l n).map (·.e) := List.mem_map_of_mem hx
  rw [tA_map] at this
  obtain ⟨k, _, e⟩ := List.mem_map.1 this
  exact ⟨k, e.symm⟩
end Go.Proofs.Ytamhngjhgdmgbaa
