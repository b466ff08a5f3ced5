/- What a union has; no function of the program is walked here. -/
import Derived.Test.YtandehgdmefpaaaL3U
import Derived.Test.YtandehgdmefpaaaRTimes
namespace Go.Proofs.Ytandehgdmefpaaa
open Go.RowKit

def Cov (u x : B4) : Prop := u.1 ≤ x.1 ∧ u.2.1 ≤ x.2.1 ∧ x.2.2.1 ≤ u.2.2.1 ∧ x.2.2.2 ≤ u.2.2.2
theorem Cov.refl (x : B4) : Cov x x := ⟨Int.le_refl _, Int.le_refl _, Int.le_refl _, Int.le_refl _⟩
theorem Cov.trans {a b c : B4} (h : Cov a b) (g : Cov b c) : Cov a c := by unfold Cov at *; omega
theorem uni_cov (a b : B4) : Cov (uni a b) a ∧ Cov (uni a b) b := by unfold Cov uni minV maxV; dsimp only; omega
theorem fold_cov (l : List B4) : ∀ a, Cov (l.foldl uni a) a ∧ ∀ x ∈ l, Cov (l.foldl uni a) x := by
  induction l with
  | nil => intro a; exact ⟨Cov.refl a, fun x hx => by cases hx⟩
  | cons b l ih =>
    intro a
    obtain ⟨h1, h2⟩ := ih (uni a b)
    refine ⟨h1.trans (uni_cov a b).1, fun x hx => ?_⟩
    rcases List.mem_cons.1 hx with rfl | hx
    · exact h1.trans (uni_cov a x).2
    · exact h2 x hx
theorem fold_box (l : List B4) : ∀ a, boxB a = true → l.all boxB = true → boxB (l.foldl uni a) = true := by
  induction l with
  | nil => intro a ha _; exact ha
  | cons b l ih =>
    intro a ha h
    simp only [List.all_cons, Bool.and_eq_true] at h
    exact ih _ (uni_box ha h.1) h.2
/-- Each side of a union is that of one of its boxes. -/
theorem fold_side (f : B4 → Int) (hf : ∀ a b, f (uni a b) = f a ∨ f (uni a b) = f b) (l : List B4) : ∀ a, f (l.foldl uni a) = f a ∨ ∃ x ∈ l, f x = f (l.foldl uni a) := by
  induction l with
  | nil => intro a; exact .inl rfl
  | cons b l ih =>
    intro a
    rcases ih (uni a b) with h | ⟨x, hx, h⟩
    · rcases hf a b with g | g
      · exact .inl (h.trans g)
      · exact .inr ⟨b, List.mem_cons_self, (h.trans g).symm⟩
    · exact .inr ⟨x, List.mem_cons_of_mem _ hx, h⟩
theorem uniAll_side (f : B4 → Int) (hf : ∀ a b, f (uni a b) = f a ∨ f (uni a b) = f b) (bs : List B4) (h : 0 < bs.length) : bs.any (fun b => f b == f (uniAll bs)) = true := by
  rw [List.any_eq_true]
  rcases fold_side f hf bs (bs.getD 0 b40) with g | ⟨x, hx, g⟩
  · refine ⟨bs.getD 0 b40, ?_, by rw [beq_iff_eq]; exact g.symm⟩
    rw [List.getD_eq_getElem?_getD, List.getElem?_eq_getElem h]; exact List.getElem_mem _
  · exact ⟨x, hx, by rw [beq_iff_eq]; exact g⟩
theorem badOf_zero (bs : List B4) (h : badOf bs = 0) : bs.all boxB = true := by
  induction bs with
  | nil => rfl
  | cons b l ih =>
    unfold badOf at h
    split at h
    · rename_i hb; simp only [List.all_cons, hb, ih h, Bool.and_self]
    · rename_i hb
      exfalso; apply hb
      show (codeB b == 0) = true
      rw [h]; rfl
theorem unionE_zero {bs : List B4} (h : unionE bs = 0) : 0 < bs.length ∧ bs.all boxB = true := by
  unfold unionE at h
  split at h
  · cases h
  · rename_i hne
    exact ⟨List.length_pos_iff.2 hne, badOf_zero bs h⟩

theorem dist_mono {u x : B4} (hc : Cov u x) (px py : Int) (hu : boxB u = true) (hx : boxB x = true) (hp : okB (px, py) = true) : distN u.1 u.2.1 u.2.2.1 u.2.2.2 px py ≤ distN x.1 x.2.1 x.2.2.1 x.2.2.2 px py := by
  obtain ⟨u1, u2, u3, u4⟩ := u; obtain ⟨x1, x2, x3, x4⟩ := x
  unfold distN distB
  rw [hu, hx, hp]
  simp only [Bool.and_self, if_true]
  unfold Cov at hc
  dsimp only at hc
  have a0 : 0 ≤ gapV px u1 u3 := by unfold gapV; omega
  have b0 : 0 ≤ gapV py u2 u4 := by unfold gapV; omega
  have a1 : gapV px u1 u3 ≤ gapV px x1 x3 := by unfold gapV; omega
  have b1 : gapV py u2 u4 ≤ gapV py x2 x4 := by unfold gapV; omega
  have := Int.mul_le_mul a1 a1 a0 (by omega)
  have := Int.mul_le_mul b1 b1 b0 (by omega)
  omega
theorem distN_big (u : B4) (px py : Int) : Big (distN u.1 u.2.1 u.2.2.1 u.2.2.2 px py) := by
  obtain ⟨u1, u2, u3, u4⟩ := u
  unfold distN distB
  split
  · rename_i h
    simp only [Bool.and_eq_true] at h
    obtain ⟨⟨a1, a2⟩, ⟨b1, b2⟩, ⟨c1, c2⟩, ⟨d1, d2⟩, _, _⟩ := boxB_bd h.1
    have hp := h.2
    rw [okB_iff] at hp
    dsimp only at a1 a2 b1 b2 c1 c2 d1 d2
    obtain ⟨g1, g2⟩ := gapV_bd px u1 u3 (by omega) (by omega) (by omega) (by omega) (by omega) (by omega)
    obtain ⟨g3, g4⟩ := gapV_bd py u2 u4 (by omega) (by omega) (by omega) (by omega) (by omega) (by omega)
    dsimp only
    have m1 := Int.mul_nonneg g1 g1
    have m2 := Int.mul_nonneg g3 g3
    have n1 := Int.mul_le_mul g2 g2 g1 (by omega)
    have n2 := Int.mul_le_mul g4 g4 g3 (by omega)
    unfold Big; omega
  · unfold Big; omega

structure CoversAt (u x : B4) (px py : Int) : Prop where
  inside : insideB x.1 x.2.1 x.2.2.1 x.2.2.2 u.1 u.2.1 u.2.2.1 u.2.2.2 = true
  meets : meetsB x.1 x.2.1 x.2.2.1 x.2.2.2 u.1 u.2.1 u.2.2.1 u.2.2.2 = true
  has : hasB x.1 x.2.1 x.2.2.1 x.2.2.2 px py = true → hasB u.1 u.2.1 u.2.2.1 u.2.2.2 px py = true
  near : ¬ 0 < cmpD (hiOf (distN u.1 u.2.1 u.2.2.1 u.2.2.2 px py)) (loOf (distN u.1 u.2.1 u.2.2.1 u.2.2.2 px py)) (distD u.1 u.2.1 u.2.2.1 u.2.2.2 px py) (hiOf (distN x.1 x.2.1 x.2.2.1 x.2.2.2 px py)) (loOf (distN x.1 x.2.1 x.2.2.1 x.2.2.2 px py)) (distD x.1 x.2.1 x.2.2.1 x.2.2.2 px py)
theorem covers_at {u x : B4} (hc : Cov u x) (px py : Int) (hu : boxB u = true) (hx : boxB x = true) (hp : okB (px, py) = true) : CoversAt u x px py := by
  have hm := dist_mono hc px py hu hx hp
  have k1 := num_hl (distN_big u px py)
  have k2 := num_hl (distN_big x px py)
  have d1 : distD u.1 u.2.1 u.2.2.1 u.2.2.2 px py = 1 := by
    obtain ⟨u1, u2, u3, u4⟩ := u; unfold distD distB; rw [hu, hp]; rfl
  have d2 : distD x.1 x.2.1 x.2.2.1 x.2.2.2 px py = 1 := by
    obtain ⟨u1, u2, u3, u4⟩ := x; unfold distD distB; rw [hx, hp]; rfl
  refine ⟨?_, ?_, ?_, ?_⟩
  · obtain ⟨u1, u2, u3, u4⟩ := u; obtain ⟨x1, x2, x3, x4⟩ := x
    have hx' := hx
    rw [boxB_iff] at hx'
    unfold Cov at hc
    unfold insideB hasB
    simp only [hx, hu, hx'.1, hx'.2.1, Bool.true_and, Bool.and_eq_true, decide_eq_true_eq]
    dsimp only at *
    omega
  · obtain ⟨u1, u2, u3, u4⟩ := u; obtain ⟨x1, x2, x3, x4⟩ := x
    have hx' := hx
    rw [boxB_iff] at hx'
    unfold Cov at hc
    unfold meetsB
    simp only [hx, hu, Bool.true_and, Bool.and_eq_true, decide_eq_true_eq]
    dsimp only at *
    omega
  · obtain ⟨u1, u2, u3, u4⟩ := u; obtain ⟨x1, x2, x3, x4⟩ := x
    unfold Cov at hc
    unfold hasB
    simp only [hx, hu, hp, Bool.true_and, Bool.and_eq_true, decide_eq_true_eq]
    dsimp only at *
    omega
  · rw [d1, d2]
    unfold cmpD
    rw [if_neg (by decide), if_neg (by decide), k1, k2]
    unfold cmpV; omega
theorem any_take_snoc {α : Type} (f : α → Bool) (d : α) (ps : List α) (k : Nat) (h : k < ps.length) : (ps.take (k + 1)).any f = ((ps.take k).any f || f (ps.getD k d)) := by
  rw [List.take_succ_eq_append_getElem h, List.any_append, List.getD_eq_getElem?_getD, List.getElem?_eq_getElem h]; simp
theorem distD_word (a b c d e f : Int) : Word (distD a b c d e f) := by unfold distD Word; split <;> omega
end Go.Proofs.Ytandehgdmefpaaa
