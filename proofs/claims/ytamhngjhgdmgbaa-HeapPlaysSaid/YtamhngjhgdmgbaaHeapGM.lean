/- pergolaref14.Heap, plainly: the place of the first one. -/
import Derived.Test.YtamhngjhgdmgbaaHeapL
namespace Go.Proofs.Ytamhngjhgdmgbaa
open Go.RowKit

/-- The place of the first of the first i that none of them stands ahead of. -/
def topF (es : List Ent) : Nat → Nat
  | 0 => 0
  | i + 1 => if cmpEn (es.getD i e0) (es.getD (topF es i) e0) < 0 then i else topF es i
theorem topF_lt (es : List Ent) (i : Nat) : topF es i = 0 ∨ topF es i < i := by
  induction i with
  | zero => exact .inl rfl
  | succ i ih =>
    unfold topF
    split
    · exact .inr (by omega)
    · omega
theorem topF_le (es : List Ent) (i n : Nat) (hi : i ≤ n) (hn : 0 < n) : topF es i < n := by
  have := topF_lt es i
  omega
theorem topF_least (es : List Ent) (hw : ∀ i, i < es.length → WordE (es.getD i e0)) (n : Nat) : n ≤ es.length → ∀ i, i < n → cmpEn (es.getD (topF es n) e0) (es.getD i e0) ≤ 0 ∧ (i < topF es n → cmpEn (es.getD (topF es n) e0) (es.getD i e0) < 0) := by
  induction n with
  | zero => intro _ i h; omega
  | succ n ih =>
    intro hn i hi
    have hk : topF es n < es.length := topF_le es n _ (by omega) (by omega)
    have self : ∀ x : Ent, cmpEn x x = 0 := fun x => by have := cmpEn_neg x x; omega
    unfold topF
    split
    · rename_i hlt
      rcases Nat.lt_or_ge i n with h | h
      · obtain ⟨h1, h2⟩ := ih (by omega) i h
        have tr := cmpEn_tr (hw n (by omega)) (hw (topF es n) hk) (hw i (by omega)) (by omega) h1
        exact ⟨tr.1, fun _ => tr.2 (.inl hlt)⟩
      · have : i = n := by omega
        subst this
        exact ⟨by rw [self]; omega, fun h => by omega⟩
    · rename_i hge
      rcases Nat.lt_or_ge i n with h | h
      · exact ih (by omega) i h
      · have : i = n := by omega
        subst this
        have hneg := cmpEn_neg (es.getD i e0) (es.getD (topF es i) e0)
        refine ⟨by omega, fun h => ?_⟩
        have := topF_lt es i
        omega

theorem map_getD (l : List Psh) (i : Nat) : (l.map (·.e)).getD i e0 = (l.getD i p0).e := by
  simp only [List.getD_eq_getElem?_getD, List.getElem?_map]
  cases l[i]? <;> rfl
/-- The first one in the order of pushing is the least one. -/
theorem topF_Least {l : List Psh} (hw : ∀ p ∈ l, WordE p.e) (hc : l.Pairwise (fun a b => a.c < b.c)) (hl : 0 < l.length) : Least (l.getD (topF (l.map (·.e)) l.length) p0) l := by
  have hk := topF_le (l.map (·.e)) l.length l.length (Nat.le_refl _) hl
  have hw' : ∀ i, i < (l.map (·.e)).length → WordE ((l.map (·.e)).getD i e0) := by
    intro i hi
    simp at hi
    rw [map_getD, List.getD_eq_getElem?_getD, List.getElem?_eq_getElem hi]
    exact hw _ (List.getElem_mem _)
  have hL := topF_least (l.map (·.e)) hw' l.length (by simp)
  generalize topF (l.map (·.e)) l.length = k at *
  refine ⟨by rw [List.getD_eq_getElem?_getD, List.getElem?_eq_getElem hk]; exact List.getElem_mem _, fun q hq => ?_⟩
  obtain ⟨i, hi, rfl⟩ := List.getElem_of_mem hq
  obtain ⟨h1, h2⟩ := hL i hi
  rw [map_getD, map_getD] at h1 h2
  have e : l.getD i p0 = l[i] := by rw [List.getD_eq_getElem?_getD, List.getElem?_eq_getElem hi]; rfl
  have ek : l.getD k p0 = l[k] := by rw [List.getD_eq_getElem?_getD, List.getElem?_eq_getElem hk]; rfl
  rw [e] at h1 h2
  rw [ek] at h1 h2 ⊢
  unfold leP ordP
  rw [or2]
  split
  · rename_i h0
    rcases Nat.lt_trichotomy i k with h | h | h
    · have := h2 h; omega
    · subst h; rw [cmpV_zero.2 rfl]; omega
    · have := List.pairwise_iff_getElem.1 hc k i hk hi h
      unfold cmpV
      rw [if_pos this]; omega
  · exact h1
theorem pw_ne {l : List Psh} (hc : l.Pairwise (fun a b => a.c < b.c)) : l.Pairwise (fun a b => a.c ≠ b.c) := hc.imp (fun h => by omega)
theorem perm_erase {l l' : List Psh} {k : Nat} (hk : k < l.length) (hp : (l[k] :: l').Perm l) : l'.Perm (l.eraseIdx k) := by
  have h : (l[k] :: l.eraseIdx k).Perm l := by
    have e : l = l.take k ++ l[k] :: l.drop (k + 1) := by rw [← List.drop_eq_getElem_cons hk, List.take_append_drop]
    rw [List.eraseIdx_eq_take_drop_succ]
    have h2 := (List.perm_middle (a := l[k]) (l₁ := l.take k) (l₂ := l.drop (k + 1))).symm
    rw [← e] at h2
    exact h2
  exact (hp.trans h.symm).cons_inv
end Go.Proofs.Ytamhngjhgdmgbaa
