/- As XRegionBar, where the region's first operation is a reading that waits for nothing and may come up behind the new block as well. No function of the program is named here. -/
import Derived.Test.YthamagnlpndnoaaDoorRegionBar
namespace Go.Proofs.YthamagnlpndnoaaDoor
open Go.RowKit

section
variable {P : Program} {ops : Array Oper} {Q : Exit → Act → World → Prop} {md : Region.Mode} {S I : World → Prop} {T : Act → World → Prop} {goal : Array Bool}

def LeavesR (P : Program) (R : Value → World → Prop) : Result Next → Prop
  | .ok (.value u) z => R u z
  | .ok (.enter f args) z => Calls P f args z fun e z' => ∃ u, e = .returned u ∧ R u z'
  | _ => False
theorem LeavesR.mono {R R' : Value → World → Prop} (h : ∀ u z, R u z → R' u z) {r : Result Next} (hl : LeavesR P R r) : LeavesR P R' r := by
  cases r with
  | ok n z =>
    cases n <;> simp only [LeavesR] at hl ⊢
    case value u => exact h _ _ hl
    case enter f args => exact hl.mono fun e z' ⟨u, he, hr⟩ => ⟨u, he, h _ _ hr⟩
  | halt x z => simp only [LeavesR] at hl
/-- In this world the operation leaves some value, and R holds. -/
def MildR (P : Program) (ops : Array Oper) (o : Oper) (a : Act) (z : World) (R : Value → World → Prop) : Prop :=
  (Region.wanted o (yielded ops a.tmps) = true ∧ LeavesR P R ((execOp a.eval o).run P z)) ∨ (Region.wanted o (yielded ops a.tmps) = false ∧ R undef z)
theorem MildR.mono {o : Oper} {a : Act} {z : World} {R R' : Value → World → Prop} (h : MildR P ops o a z R) (hr : ∀ u z, R u z → R' u z) : MildR P ops o a z R' := by
  rcases h with ⟨h1, h2⟩ | ⟨h1, h2⟩
  · exact .inl ⟨h1, h2.mono hr⟩
  · exact .inr ⟨h1, hr _ _ h2⟩
theorem MildR.of_same {o : Oper} {a a' : Act} {z : World} {R : Value → World → Prop} (hy : MildR P ops o a z R) (he : execOp a'.eval o = execOp a.eval o)
    (hw : Region.wanted o (yielded ops a'.tmps) = Region.wanted o (yielded ops a.tmps)) : MildR P ops o a' z R := by
  unfold MildR at *
  rw [he, hw]
  exact hy
theorem Mild.toR {o : Oper} {v : Value} {a : Act} {z : World} {R : Value → World → Prop} (h : Mild P ops S o v a) (hz : S z) (hr : ∀ z, S z → R v z) : MildR P ops o a z R := by
  rcases h with ⟨hw, hv⟩ | ⟨hw, rfl⟩
  · refine .inl ⟨hw, ?_⟩
    have hl := hv z hz
    generalize (execOp a.eval o).run P z = r at hl
    cases r with
    | ok n z' =>
      cases n <;> simp only [Leaves] at hl
      case value u => obtain ⟨rfl, hz'⟩ := hl; exact hr _ hz'
      case enter f args => exact Calls.mono hl fun e z' ⟨he, hz'⟩ => ⟨v, he, hr _ hz'⟩
    | halt x z' => simp only [Leaves] at hl
  · exact .inr ⟨hw, hr _ hz⟩
theorem MildR.wp {i : Nat} {o : Oper} {a : Act} {w : World} {R : Value → World → Prop} (hi : ops[i]? = some o) (hy : MildR P ops o a w R)
    {K : Act → World → Prop} (h : ∀ u z, R u z → K (a.put o.dst u) z) : wpOp P ops Q i K a w := by
  unfold Go.wpOp
  simp only [hi]
  rcases hy with ⟨hw, hl⟩ | ⟨hw, hr⟩
  · simp only [hw, if_true]
    refine .inl ?_
    unfold Oper.wp
    generalize (execOp a.eval o).run P w = r at hl
    cases r with
    | ok n z =>
      cases n <;> simp only [LeavesR] at hl
      case value u => exact h _ _ hl
      case enter f args =>
        simp only [Oper.upon]
        refine Calls.mono hl fun e z' he => ?_
        obtain ⟨u, rfl, hz⟩ := he
        exact h _ _ hz
    | halt x z => simp only [LeavesR] at hl
  · simp only [hw, Bool.false_eq_true, if_false]; exact h _ _ hr

/-- Any order, each world on the way in I. -/
def wpI (P : Program) (md : Region.Mode) (ops : Array Oper) (Q : Exit → Act → World → Prop) (I : World → Prop) : Nat → Array Bool → Act → World → Prop
  | 0, listed, a, z => I z ∧ Region.ready md ops listed = [] ∧ Q .normal a z
  | fuel + 1, listed, a, z => I z ∧ (Region.ready md ops listed = [] → Q .normal a z) ∧
    ∀ i ∈ Region.ready md ops listed, ∃ o, ops[i]? = some o ∧ MildR P ops o a z fun u z2 => wpI P md ops Q I fuel (listed.setIfInBounds i true) (a.put o.dst u) z2
theorem wpI_I : ∀ (fuel : Nat) (listed : Array Bool) (a : Act) (z : World), wpI P md ops Q I fuel listed a z → I z
  | 0, _, _, _, h => h.1
  | _ + 1, _, _, _, h => h.1
theorem wpI_any : ∀ (fuel : Nat) (listed : Array Bool) (a : Act) (z : World), wpI P md ops Q I fuel listed a z → wpAny P md ops Q fuel listed a z
  | 0, _, _, _, h => h.2
  | fuel + 1, _, _, _, h => ⟨h.2.1, fun i hi => by
      obtain ⟨o, ho, hm⟩ := h.2.2 i hi
      exact hm.wp ho fun u z2 h2 => wpI_any fuel _ _ _ h2⟩
theorem wpB_I (hSI : ∀ z, S z → I z) : ∀ (fuel : Nat) (listed : Array Bool) (a : Act), wpB P md ops Q S fuel listed a → ∀ z, S z → wpI P md ops Q I fuel listed a z
  | 0, _, _, h, z, hz => ⟨hSI z hz, h.1, h.2 z hz⟩
  | fuel + 1, _, _, h, z, hz => ⟨hSI z hz, fun h0 => h.1 h0 z hz, fun i hi => by
      obtain ⟨o, v, ho, hm, hr⟩ := h.2 i hi
      exact ⟨o, ho, hm.toR hz (wpB_I hSI fuel _ _ hr)⟩⟩
theorem wpT_I {f2 : Nat} (hSI : ∀ z, S z → I z) (hT : ∀ a z, T a z → wpI P md ops Q I f2 goal a z) : ∀ (f1 : Nat) (listed : Array Bool) (a : Act), wpT P md ops S T goal f1 listed a → ∀ z, S z → wpI P md ops Q I (f1 + f2) listed a z
  | 0, _, _, h, z, hz => by rw [Nat.zero_add, h.1]; exact hT _ _ (h.2 z hz)
  | f + 1, _, _, h, z, hz => by
    rw [show f + 1 + f2 = (f + f2) + 1 from by omega]
    refine ⟨hSI z hz, fun h0 => absurd h0 h.1, fun i hi => ?_⟩
    obtain ⟨o, v, ho, hm, hr⟩ := h.2 i hi
    exact ⟨o, ho, hm.toR hz (wpT_I hSI hT f _ _ hr)⟩

/-- A reading that gives v in every world of I may be taken first. -/
theorem takeI {i : Nat} {oi : Oper} {v : Value} (hi : ops[i]? = some oi) (hsel : ∀ (j : Nat) (o : Oper) cs b, ops[j]? = some o → o.op ≠ .select cs b) :
    ∀ (fuel : Nat) (listed : Array Bool) (a : Act) (z : World),
      (∀ j oj, ops[j]? = some oj → j ≠ i → listed.getD j true = false → (∀ e ∈ oj.after, Region.binds md e = true → e.on ≠ i) → oi.apart ops oj = true) →
      i ∈ Region.ready md ops listed → (∀ z, I z → MildR P ops oi a z fun u z2 => u = v ∧ z2 = z) →
      wpI P md ops Q I fuel (listed.setIfInBounds i true) (a.put oi.dst v) z → wpI P md ops Q I (fuel + 1) listed a z := by
  intro fuel
  induction fuel with
  | zero =>
    intro listed a z _ hr hy H
    have hI := wpI_I _ _ _ _ H
    refine ⟨hI, fun h => (by rw [h] at hr; cases hr), fun j hj => ?_⟩
    by_cases hji : j = i
    · subst hji
      exact ⟨oi, hi, (hy z hI).mono fun u z2 ⟨e1, e2⟩ => by subst e1; subst e2; exact H⟩
    · have := ready_mono hj hji
      rw [H.2.1] at this
      cases this
  | succ fuel ih =>
    intro listed a z hfree hr hy H
    have hI := wpI_I _ _ _ _ H
    refine ⟨hI, fun h => (by rw [h] at hr; cases hr), fun j hj => ?_⟩
    by_cases hji : j = i
    · subst hji
      exact ⟨oi, hi, (hy z hI).mono fun u z2 ⟨e1, e2⟩ => by subst e1; subst e2; exact H⟩
    · obtain ⟨oj, hoj, hyj⟩ := H.2.2 j (ready_mono hj hji)
      obtain ⟨hjun, oj', hoj', hall⟩ := mem_ready.1 hj
      rw [hoj] at hoj'
      cases hoj'
      have hnot : ∀ e ∈ oj.after, Region.binds md e = true → e.on ≠ i := fun e he hb heq => by
        have h1 := hall e he hb
        have h0 := (mem_ready.1 hr).1
        rw [heq] at h1
        rcases Nat.lt_or_ge i listed.size with h' | h'
        · simp [h'] at h0 h1; rw [h0] at h1; cases h1
        · simp [Array.getElem?_eq_none h'] at h1
      obtain ⟨h1, h2, h3⟩ := Oper.apart_spec (hfree j oj hoj hji hjun hnot)
      have hsi := fun cs b => hsel i oi cs b hi
      have hsj := fun cs b => hsel j oj cs b hoj
      refine ⟨oj, hoj, (hyj.of_same (execOp_put oj hsj a oi.dst v h1).symm (wanted_put oj a oi.dst v h1).symm).mono fun u z2 Hj => ?_⟩
      refine ih (listed.setIfInBounds j true) (a.put oj.dst u) z2 ?_ (ready_mono hr (Ne.symm hji)) (fun z hz => (hy z hz).of_same (execOp_put oi hsi a oj.dst u h3) (wanted_put oi a oj.dst u h3)) ?_
      · intro k ok hk hki hun hno
        refine hfree k ok hk hki ?_ hno
        by_cases hjk : j = k
        · subst hjk; exact hjun
        · rw [getD_set_ne true hjk] at hun; exact hun
      · rw [Array.setIfInBounds_comm _ _ hji, ← Act.put_comm a v u h2]
        exact Hj

theorem takeT1 {i : Nat} {oi : Oper} {v : Value} (hi : ops[i]? = some oi) (hsel : ∀ (j : Nat) (o : Oper) cs b, ops[j]? = some o → o.op ≠ .select cs b)
    (hE : ∀ j ∈ Region.ready md ops goal, goal.getD i false = true → Closed md ops (goal.setIfInBounds i false) → j ∉ Region.ready md ops (goal.setIfInBounds i false)) :
    ∀ (fuel : Nat) (listed : Array Bool) (a : Act), Closed md ops listed →
      (∀ j oj, ops[j]? = some oj → j ≠ i → listed.getD j true = false → (∀ e ∈ oj.after, Region.binds md e = true → e.on ≠ i) → oi.apart ops oj = true) →
      i ∈ Region.ready md ops listed → Mild P ops S oi v a →
      wpT P md ops S T goal fuel (listed.setIfInBounds i true) (a.put oi.dst v) → wpT P md ops S T goal (fuel + 1) listed a := by
  intro fuel
  induction fuel with
  | zero =>
    intro listed a hcl _ hr hy H
    refine ⟨fun h => (by rw [h] at hr; cases hr), fun j hj => ?_⟩
    by_cases hji : j = i
    · subst hji; exact ⟨oi, v, hi, hy, H⟩
    · have hm := ready_mono hj hji
      obtain ⟨e1, e2⟩ := set_back (mem_ready.1 hr).1
      rw [H.1] at hm e1 e2
      have := hE j hm e2
      rw [e1] at this
      exact absurd hj (this hcl)
  | succ fuel ih =>
    intro listed a hcl hfree hr hy H
    refine ⟨fun h => (by rw [h] at hr; cases hr), fun j hj => ?_⟩
    by_cases hji : j = i
    · subst hji; exact ⟨oi, v, hi, hy, H⟩
    · obtain ⟨oj, vj, hoj, hyj, Hj⟩ := H.2 j (ready_mono hj hji)
      obtain ⟨hjun, oj', hoj', hall⟩ := mem_ready.1 hj
      rw [hoj] at hoj'
      cases hoj'
      have hnot : ∀ e ∈ oj.after, Region.binds md e = true → e.on ≠ i := fun e he hb heq => by
        have h1 := hall e he hb
        have h0 := (mem_ready.1 hr).1
        rw [heq] at h1
        rcases Nat.lt_or_ge i listed.size with h' | h'
        · simp [h'] at h0 h1; rw [h0] at h1; cases h1
        · simp [Array.getElem?_eq_none h'] at h1
      obtain ⟨h1, h2, h3⟩ := Oper.apart_spec (hfree j oj hoj hji hjun hnot)
      have hsi := fun cs b => hsel i oi cs b hi
      have hsj := fun cs b => hsel j oj cs b hoj
      refine ⟨oj, vj, hoj, hyj.of_same (execOp_put oj hsj a oi.dst v h1).symm (wanted_put oj a oi.dst v h1).symm, ?_⟩
      refine ih (listed.setIfInBounds j true) (a.put oj.dst vj) (hcl.set_ hj) ?_ (ready_mono hr (Ne.symm hji)) (hy.of_same (execOp_put oi hsi a oj.dst vj h3) (wanted_put oi a oj.dst vj h3)) ?_
      · intro k ok hk hki hun hno
        refine hfree k ok hk hki ?_ hno
        by_cases hjk : j = k
        · subst hjk; exact hjun
        · rw [getD_set_ne true hjk] at hun; exact hun
      · rw [Array.setIfInBounds_comm _ _ hji, ← Act.put_comm a v vj h2]
        exact Hj

theorem stepsT_wpT1 {k1 : Nat} (hok : textOk ops = true) (hk1 : k1 ≤ ops.size)
    (hE : ∀ j ∈ Region.ready .any ops (listedN ops.size k1), ∀ m, 1 ≤ m → (listedN ops.size k1).getD m false = true → Closed .any ops ((listedN ops.size k1).setIfInBounds m false) → j ∉ Region.ready .any ops ((listedN ops.size k1).setIfInBounds m false)) :
    ∀ (rest : List Oper) (k : Nat) (a : Act), 1 ≤ k → (ops.toList.take k1).drop k = rest → k ≤ k1 → Closed .any ops (listedN ops.size k) → StepsT P ops S T rest a → wpT P .any ops S T (listedN ops.size k1) (k1 - k) (listedN ops.size k) a := by
  simp only [textOk, Bool.and_eq_true, List.all_eq_true, List.mem_range] at hok
  intro rest
  induction rest with
  | nil =>
    intro k a _ hd hk hcl h
    have hl : k1 ≤ k := by
      have := congrArg List.length hd
      simp at this
      omega
    have hz : k1 - k = 0 := by omega
    have he : k = k1 := by omega
    rw [hz, he]
    exact ⟨rfl, h⟩
  | cons o rest ih =>
    intro k a hk0 hd hk hcl h
    obtain ⟨v, hm, hs⟩ := h
    have hkl : k < k1 := by
      rcases Nat.lt_or_ge k k1 with h1 | h1
      · exact h1
      · rw [List.drop_eq_nil_of_le (by simp; omega)] at hd; cases hd
    have hd2 := List.drop_eq_getElem_cons (l := ops.toList.take k1) (i := k) (by simp; omega)
    rw [hd] at hd2
    injection hd2 with h1 h2
    have hget : ops[k]? = some o := by
      rw [Array.getElem?_eq_getElem (by omega), h1]
      simp
    obtain ⟨hr, hf⟩ := hok.2 k (by omega)
    have he : k1 - k = (k1 - (k + 1)) + 1 := by omega
    rw [he]
    have hr' : k ∈ Region.ready .any ops (listedN ops.size k) := by simpa using hr
    refine takeT1 hget (Region.noSelect_spec hok.1) (fun j hj => hE j hj k hk0) _ _ a hcl (Region.free_spec hget hf) hr' hm ?_
    rw [listedN_set]
    exact ih (k + 1) _ (by omega) h2.symm (by omega) (by rw [← listedN_set]; exact hcl.set_ hr') hs

theorem wpT_and : ∀ {fuel : Nat} {listed : Array Bool} {a : Act}, wpT P md ops S T goal fuel listed a → wpT P md ops S (fun a' z => T a' z ∧ S z) goal fuel listed a
  | 0, _, _, h => ⟨h.1, fun z hz => ⟨h.2 z hz, hz⟩⟩
  | _ + 1, _, _, h => ⟨h.1, fun i hi => by
      obtain ⟨o, v, ho, hm, hr⟩ := h.2 i hi
      exact ⟨o, v, ho, hm, wpT_and hr⟩⟩

/-- As barOk, the first operation set aside. -/
def looseOk (ops : Array Oper) (k : Nat) : Bool :=
  decide (1 ≤ k) && decide (k < ops.size) && (Region.ready .any ops (listedN ops.size k) == [k]) && (List.range k).all fun m => decide (m = 0) || (!(closedB ops ((listedN ops.size k).setIfInBounds m false)) || !(Region.ready .any ops ((listedN ops.size k).setIfInBounds m false)).contains k)

/-- What holds where the k-th operation comes up: it leaves a value, the world stays in I, and the rest is walked. -/
def Bar (P : Program) (ops : Array Oper) (Q : Exit → Act → World → Prop) (I : World → Prop) (k : Nat) (a : Act) (z : World) : Prop :=
  ∃ o v z', ops[k]? = some o ∧ Region.wanted o (yielded ops a.tmps) = true ∧ (execOp a.eval o).run P z = .ok (.value v) z' ∧ (∀ x, Below z'.heap.size z' x → I x) ∧ Steps P ops Q (Below z'.heap.size z') (ops.toList.drop (k + 1)) (a.put o.dst v)

/-- THE LAW. -/
theorem wp_region_loose {id : Nat} {a : Act} {w : World} (k : Nat) (hm : P.follows .mixedOrders = true) (hok : textOk ops = true) (hbar : looseOk ops k = true)
    {o0 : Oper} {rest0 : List Oper} {v0 : Value} (hd0 : ops.toList.drop 0 = o0 :: rest0) (hw0 : Region.wanted o0 (yielded ops a.tmps) = true) (hy0 : ∀ z, Below w.heap.size w z → (execOp a.eval o0).run P z = .ok (.value v0) z)
    (h : StepsT P ops (Below w.heap.size w) (Bar P ops Q (Below w.heap.size w) k) ((ops.toList.take k).drop 1) (a.put o0.dst v0)) : (Code.region id ops true).wp P Q a w := by
  simp only [looseOk, Bool.and_eq_true, decide_eq_true_eq, beq_iff_eq, List.all_eq_true, List.mem_range, Bool.or_eq_true, Bool.not_eq_true', List.contains_eq_mem, decide_eq_false_iff_not] at hbar
  obtain ⟨⟨⟨hk0, hk⟩, hr⟩, hE⟩ := hbar
  have h0 : ops[0]? = some o0 := by
    rw [← Array.getElem?_toList, show ops.toList = o0 :: rest0 from hd0]
    rfl
  refine wp_region_any hm ?_
  have hok' := hok
  simp only [textOk, Bool.and_eq_true, List.all_eq_true, List.mem_range] at hok'
  obtain ⟨r0, f0⟩ := hok'.2 0 (by omega)
  have hr0 : 0 ∈ Region.ready .any ops (listedN ops.size 0) := by simpa using r0
  have hc0 : Closed .any ops (listedN ops.size 0) := by
    intro j o _ hl
    have := listedN_get hl
    omega
  have h1 := stepsT_wpT1 (k1 := k) hok (Nat.le_of_lt hk) (by
    intro j hj m hm1 hm' hcl
    rw [hr] at hj
    simp at hj
    subst hj
    exact ((hE m (listedN_get hm')).resolve_left (by omega)).resolve_left (by rw [hcl.toB]; simp)) ((ops.toList.take k).drop 1) 1 (a.put o0.dst v0) (Nat.le_refl _) rfl hk0 (by rw [← listedN_set]; exact hc0.set_ hr0) h
  have hT : ∀ a' z, Bar P ops Q (Below w.heap.size w) k a' z → Below w.heap.size w z → wpI P .any ops Q (Below w.heap.size w) (ops.size - k) (listedN ops.size k) a' z := by
    intro a' z ⟨o, v, z', ho, hw, hy, hI, hst⟩ hz
    rw [show ops.size - k = (ops.size - (k + 1)) + 1 from by omega]
    refine ⟨hz, fun h0 => (by rw [hr] at h0; cases h0), fun i hi => ?_⟩
    rw [hr] at hi
    simp at hi
    subst hi
    refine ⟨o, ho, .inl ⟨hw, ?_⟩⟩
    rw [hy]
    show wpI P .any ops Q _ _ _ _ _
    rw [listedN_set]
    exact wpB_I hI _ _ _ (steps_wpB hok _ (i + 1) _ rfl (by omega) hst) z' (Below.refl _ _)
  have h2 : listedN ops.size 0 = Array.replicate ops.size false := by
    unfold listedN
    apply Array.ext
    · simp
    · intro i _ _; simp
  have hz0 : Below w.heap.size w { w with drawn := w.drawn + 1 } := ⟨rfl, rfl, rfl, Nat.le_refl _, fun _ _ => rfl⟩
  have h3 := wpT_I (T := fun a' z => Bar P ops Q (Below w.heap.size w) k a' z ∧ Below w.heap.size w z) (I := Below w.heap.size w) (fun _ h => h) (fun a' z h => hT a' z h.1 h.2) _ _ _ (wpT_and h1) _ hz0
  have h4 := takeI (I := Below w.heap.size w) h0 (Region.noSelect_spec hok'.1) _ (listedN ops.size 0) a _ (Region.free_spec h0 f0) hr0 (fun z hz => .inl ⟨hw0, by rw [hy0 z hz]; exact ⟨rfl, rfl⟩⟩) (by rw [listedN_set]; exact h3)
  have h5 := wpI_any _ _ _ _ h4
  rw [h2] at h5
  rwa [show k - 1 + (ops.size - k) + 1 = ops.size from by omega] at h5

theorem loose_val {i : Nat} {o : Oper} {rest : List Oper} {a : Act} {v : Value} {z z' : World} (hd : ops.toList.drop i = o :: rest) (hw : Region.wanted o (yielded ops a.tmps) = true)
    (hy : (execOp a.eval o).run P z = .ok (.value v) z') (hI : ∀ x, Below z'.heap.size z' x → I x) (h : Steps P ops Q (Below z'.heap.size z') rest (a.put o.dst v)) : Bar P ops Q I i a z := by
  have hl : i < ops.size := by
    rcases Nat.lt_or_ge i ops.size with h1 | h1
    · exact h1
    · rw [List.drop_eq_nil_of_le (by simpa using h1)] at hd; cases hd
  have hc := List.drop_eq_getElem_cons (l := ops.toList) (i := i) (by simpa using hl)
  rw [hd] at hc
  injection hc with e1 e2
  have hi : ops[i]? = some o := by rw [Array.getElem?_eq_getElem hl, e1]; simp
  exact ⟨o, v, z', hi, hw, hy, hI, by rw [← e2]; exact h⟩
end
end Go.Proofs.YthamagnlpndnoaaDoor
