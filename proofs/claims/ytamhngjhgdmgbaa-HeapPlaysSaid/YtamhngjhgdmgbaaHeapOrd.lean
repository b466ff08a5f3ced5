/- Heaps, plainly: lists kept in a heap's order under an order that is total and transitive on the elements that meet S. -/
import Derived.Test.YtamhngjhgdmgbaaBase
namespace Go.Proofs.Ytamhngjhgdmgbaa

section
variable {α : Type} (d : α) (le : α → α → Prop)

def swapG (l : List α) (i j : Nat) : List α := (l.set i (l.getD j d)).set j (l.getD i d)
theorem swapG_length (l : List α) (i j : Nat) : (swapG d l i j).length = l.length := by simp [swapG]
theorem swapG_get (l : List α) (i j k : Nat) (hi : i < l.length) (hj : j < l.length) : (swapG d l i j).getD k d = if k = j then l.getD i d else if k = i then l.getD j d else l.getD k d := by
  unfold swapG
  simp only [List.getD_eq_getElem?_getD, List.getElem?_set]
  by_cases h1 : k = j
  · subst h1; simp [hj]
  · rw [if_neg (Ne.symm h1), if_neg h1]
    by_cases h2 : k = i
    · subst h2; simp [hi]
    · rw [if_neg (Ne.symm h2), if_neg h2]

/-- Each stands behind its parent. -/
def OrdG (l : List α) : Prop := ∀ i, 0 < i → i < l.length → le (l.getD ((i - 1) / 2) d) (l.getD i d)
/-- All but the k-th stand behind their parents, and what stands under k behind k's parent. -/
def UpBut (l : List α) (k : Nat) : Prop :=
  (∀ i, 0 < i → i < l.length → i ≠ k → le (l.getD ((i - 1) / 2) d) (l.getD i d)) ∧
  (∀ i, 0 < i → i < l.length → (i - 1) / 2 = k → 0 < k → le (l.getD ((k - 1) / 2) d) (l.getD i d))
/-- All but those under k stand behind their parents, and those under k behind k's parent. -/
def DownBut (l : List α) (k : Nat) : Prop :=
  (∀ i, 0 < i → i < l.length → (i - 1) / 2 ≠ k → le (l.getD ((i - 1) / 2) d) (l.getD i d)) ∧
  (∀ i, 0 < i → i < l.length → (i - 1) / 2 = k → 0 < k → le (l.getD ((k - 1) / 2) d) (l.getD i d))

variable {d le} {S : α → Prop} (tr : ∀ a b c, S a → S b → S c → le a b → le b c → le a c)
include tr

theorem up_step {l : List α} (hS : ∀ i, i < l.length → S (l.getD i d)) {k : Nat} (h : UpBut d le l k) (hk : k < l.length) (h0 : 0 < k) (hlt : le (l.getD k d) (l.getD ((k - 1) / 2) d)) :
    UpBut d le (swapG d l k ((k - 1) / 2)) ((k - 1) / 2) := by
  obtain ⟨h1, h2⟩ := h
  have hp : (k - 1) / 2 < k := by omega
  generalize hq : (k - 1) / 2 = q at *
  have hql : q < l.length := by omega
  have g := fun j => swapG_get d l k q j hk hql
  constructor
  · intro i hi hil hne
    rw [swapG_length] at hil
    rw [g, g]
    by_cases e1 : i = k
    · subst e1
      rw [hq, if_pos rfl, if_neg (by omega), if_pos rfl]
      exact hlt
    · rw [if_neg hne, if_neg e1]
      by_cases e2 : (i - 1) / 2 = q
      · rw [if_pos e2]
        have := h1 i hi hil e1
        rw [e2] at this
        exact tr _ _ _ (hS _ hk) (hS _ hql) (hS _ hil) hlt this
      · rw [if_neg e2]
        by_cases e3 : (i - 1) / 2 = k
        · rw [if_pos e3]
          exact h2 i hi hil e3 h0
        · rw [if_neg e3]
          exact h1 i hi hil e1
  · intro i hi hil hiq hq0
    rw [swapG_length] at hil
    rw [g, g, if_neg (by omega), if_neg (by omega), if_neg (by omega)]
    have hpar := h1 q hq0 hql (by omega)
    by_cases e1 : i = k
    · rw [if_pos e1]; exact hpar
    · rw [if_neg e1]
      have := h1 i hi hil e1
      rw [hiq] at this
      exact tr _ _ _ (hS _ (by omega)) (hS _ hql) (hS _ hil) hpar this

omit tr in
theorem up_done {l : List α} {k : Nat} (h : UpBut d le l k) (hk : k = 0 ∨ le (l.getD ((k - 1) / 2) d) (l.getD k d)) : OrdG d le l := by
  intro i hi hil
  by_cases e : i = k
  · subst e
    rcases hk with h0 | h0
    · omega
    · exact h0
  · exact h.1 i hi hil e

omit tr in
theorem down_step {l : List α} {k c : Nat} (h : DownBut d le l k) (hc : c < l.length) (hc0 : 0 < c) (hck : (c - 1) / 2 = k) (hlt : le (l.getD c d) (l.getD k d))
    (hmin : ∀ i, 0 < i → i < l.length → (i - 1) / 2 = k → le (l.getD c d) (l.getD i d)) : DownBut d le (swapG d l k c) c := by
  obtain ⟨h1, h2⟩ := h
  have hkc : k < c := by omega
  have hk : k < l.length := by omega
  have g := fun j => swapG_get d l k c j hk hc
  constructor
  · intro i hi hil hne
    rw [swapG_length] at hil
    rw [g, g, if_neg hne]
    by_cases e1 : (i - 1) / 2 = k
    · rw [if_pos e1]
      by_cases e2 : i = c
      · rw [if_pos e2]; exact hlt
      · rw [if_neg e2, if_neg (by omega)]
        exact hmin i hi hil e1
    · rw [if_neg e1, if_neg (by intro e; rw [e] at e1; exact e1 hck)]
      by_cases e2 : i = k
      · subst e2
        rw [if_pos rfl]
        exact h2 c hc0 hc hck hi
      · rw [if_neg e2]
        exact h1 i hi hil e1
  · intro i hi hil hic _
    rw [swapG_length] at hil
    rw [hck, g, g, if_neg (by omega), if_pos rfl, if_neg (by omega), if_neg (by omega), ← hic]
    exact h1 i hi hil (by omega)
omit tr in
theorem down_done {l : List α} {k : Nat} (h : DownBut d le l k) (hmin : ∀ i, 0 < i → i < l.length → (i - 1) / 2 = k → le (l.getD k d) (l.getD i d)) : OrdG d le l := by
  intro i hi hil
  by_cases e : (i - 1) / 2 = k
  · rw [e]; exact hmin i hi hil e
  · exact h.1 i hi hil e
omit tr in
theorem up_start {l : List α} {p : α} (h : OrdG d le l) : UpBut d le (l ++ [p]) l.length := by
  constructor
  · intro i hi hil hne
    simp at hil
    have := h i hi (by omega)
    simp only [List.getD_eq_getElem?_getD] at this ⊢
    rw [List.getElem?_append_left (by omega), List.getElem?_append_left (by omega)]
    exact this
  · intro i hi hil hik
    simp at hil
    omega
omit tr in
theorem down_start {l : List α} {p : α} {n : Nat} (h : OrdG d le l) (hn : n ≤ l.length) : DownBut d le ((l.set 0 p).take n) 0 := by
  constructor
  · intro i hi hil hne
    simp at hil
    have := h i hi (by omega)
    simp only [List.getD_eq_getElem?_getD] at this ⊢
    rw [List.getElem?_take, List.getElem?_take, if_pos (by omega), if_pos (by omega), List.getElem?_set, List.getElem?_set, if_neg (by omega), if_neg (by omega)]
    exact this
  · intro i hi hil hik h0
    omega
theorem ord_top (rf : ∀ a, S a → le a a) {l : List α} (hS : ∀ i, i < l.length → S (l.getD i d)) (h : OrdG d le l) : ∀ i, i < l.length → le (l.getD 0 d) (l.getD i d) := by
  intro i
  induction i using Nat.strongRecOn with
  | _ i ih =>
    intro hi
    rcases Nat.eq_zero_or_pos i with rfl | h0
    · exact rf _ (hS _ hi)
    · exact tr _ _ _ (hS _ (by omega)) (hS _ (by omega)) (hS _ hi) (ih ((i - 1) / 2) (by omega) (by omega)) (h i h0 hi)
omit tr in
theorem swapG_perm {l : List α} {i j : Nat} (hi : i < l.length) (hj : j < l.length) : (swapG d l i j).Perm l := by
  unfold swapG
  rw [List.getD_eq_getElem?_getD, List.getD_eq_getElem?_getD, List.getElem?_eq_getElem hi, List.getElem?_eq_getElem hj]
  exact List.set_set_perm hi hj
omit tr in
theorem pop_perm {a : α} {t : List α} : (a :: (((a :: t).set 0 ((a :: t).getD t.length d)).take t.length)).Perm (a :: t) := by
  refine List.Perm.cons _ ?_
  rcases List.eq_nil_or_concat t with rfl | ⟨r, z, rfl⟩
  · simp
  · simp
    exact List.perm_append_comm (l₁ := [z]) (l₂ := r)
end
end Go.Proofs.Ytamhngjhgdmgbaa
