/- A region that draws its order and makes one new block on the way, where nothing else can come up while that is made: a walk in the order of the text. No function of the program is named here. -/
import Derived.Test.YtamhngjhgdmgbaaRegion
namespace Go.Proofs.Ytamhngjhgdmgbaa
open Go.RowKit

section
variable {P : Program} {ops : Array Oper} {Q : Exit → Act → World → Prop} {md : Region.Mode} {S : World → Prop} {T : Act → World → Prop} {goal : Array Bool}

/-- Whatever comes up next is mild, till all of the goal is done; then T. -/
def wpT (P : Program) (md : Region.Mode) (ops : Array Oper) (S : World → Prop) (T : Act → World → Prop) (goal : Array Bool) : Nat → Array Bool → Act → Prop
  | 0, listed, a => listed = goal ∧ ∀ z, S z → T a z
  | fuel + 1, listed, a => Region.ready md ops listed ≠ [] ∧
    ∀ i ∈ Region.ready md ops listed, ∃ o v, ops[i]? = some o ∧ Mild P ops S o v a ∧ wpT P md ops S T goal fuel (listed.setIfInBounds i true) (a.put o.dst v)

theorem wpT_any {f2 : Nat} (hT : ∀ a z, T a z → wpAny P md ops Q f2 goal a z) : ∀ (f1 : Nat) (listed : Array Bool) (a : Act), wpT P md ops S T goal f1 listed a → ∀ z, S z → wpAny P md ops Q (f1 + f2) listed a z
  | 0, _, _, h, z, hz => by rw [Nat.zero_add, h.1]; exact hT _ _ (h.2 z hz)
  | f + 1, _, _, h, z, hz => by
    rw [show f + 1 + f2 = (f + f2) + 1 from by omega]
    refine ⟨fun h0 => absurd h0 h.1, fun i hi => ?_⟩
    obtain ⟨o, v, ho, hm, hr⟩ := h.2 i hi
    exact hm.wp ho hz (wpT_any hT f _ _ hr)

theorem set_back {listed : Array Bool} {i : Nat} (h : listed.getD i true = false) : (listed.setIfInBounds i true).setIfInBounds i false = listed ∧ (listed.setIfInBounds i true).getD i false = true := by
  have hi : i < listed.size := by
    rcases Nat.lt_or_ge i listed.size with h' | h'
    · exact h'
    · simp [Array.getElem?_eq_none h'] at h
  have he : listed[i] = false := by simpa [hi] using h
  constructor
  · apply Array.ext_getElem?
    intro j
    by_cases hj : i = j
    · subst hj; simp [hi, he]
    · simp [hj]
  · simp [hi]

/-- Whatever is done: all that it waits for is done. -/
def Closed (md : Region.Mode) (ops : Array Oper) (L : Array Bool) : Prop := ∀ (j : Nat) (o : Oper), ops[j]? = some o → L.getD j false = true → ∀ e ∈ o.after, Region.binds md e = true → L.getD e.on false = true
def closedB (ops : Array Oper) (L : Array Bool) : Bool := (List.range ops.size).all fun j => match ops[j]? with | some o => !(L.getD j false) || o.after.all fun e => !(Region.binds .any e) || L.getD e.on false | none => true
theorem Closed.toB {L : Array Bool} (h : Closed .any ops L) : closedB ops L = true := by
  unfold closedB
  rw [List.all_eq_true]
  intro j _
  cases ho : ops[j]? with
  | none => rfl
  | some o =>
    cases hl : L.getD j false with
    | false => rfl
    | true =>
      simp only [Bool.not_true, Bool.false_or, Array.all_eq_true_iff_forall_mem, Bool.or_eq_true, Bool.not_eq_true']
      intro e he
      cases hb : Region.binds .any e with
      | false => exact .inl rfl
      | true => exact .inr (h j o ho hl e he hb)
theorem Closed.set_ {L : Array Bool} (h : Closed md ops L) {j : Nat} (hj : j ∈ Region.ready md ops L) : Closed md ops (L.setIfInBounds j true) := by
  intro k o ho hl e he hb
  refine getD_set_true ?_
  by_cases hk : k = j
  · subst hk
    obtain ⟨_, o', ho', hall⟩ := mem_ready.1 hj
    rw [ho] at ho'; cases ho'
    exact hall e he hb
  · rw [getD_set_ne false (Ne.symm hk)] at hl
    exact h k o ho hl e he hb

theorem takeT {i : Nat} {oi : Oper} {v : Value} (hi : ops[i]? = some oi) (hsel : ∀ (j : Nat) (o : Oper) cs b, ops[j]? = some o → o.op ≠ .select cs b)
    (hE : ∀ j ∈ Region.ready md ops goal, ∀ m, goal.getD m false = true → Closed md ops (goal.setIfInBounds m false) → j ∉ Region.ready md ops (goal.setIfInBounds m false)) :
    ∀ (fuel : Nat) (listed : Array Bool) (a : Act), Closed md ops listed →
      (∀ j oj, ops[j]? = some oj → j ≠ i → listed.getD j true = false → (∀ e ∈ oj.after, Region.binds md e = true → e.on ≠ i) → oi.apart ops oj = true) →
      i ∈ Region.ready md ops listed → Mild P ops S oi v a →
      wpT P md ops S T goal fuel (listed.setIfInBounds i true) (a.put oi.dst v) → wpT P md ops S T goal (fuel + 1) listed a := by
  intro fuel
  induction fuel with
  | zero =>
    intro listed a hcl _ hr hy H
    refine ⟨fun h => (by rw [h] at hr; cases hr), fun j hj => ?_⟩
    by_cases hji : j = i
    · subst hji; exact ⟨oi, v, hi, hy, H⟩
    · have hm := ready_mono hj hji
      obtain ⟨e1, e2⟩ := set_back (mem_ready.1 hr).1
      rw [H.1] at hm e1 e2
      have := hE j hm i e2
      rw [e1] at this
      exact absurd hj (this hcl)
  | succ fuel ih =>
    intro listed a hcl hfree hr hy H
    refine ⟨fun h => (by rw [h] at hr; cases hr), fun j hj => ?_⟩
    by_cases hji : j = i
    · subst hji; exact ⟨oi, v, hi, hy, H⟩
    · obtain ⟨oj, vj, hoj, hyj, Hj⟩ := H.2 j (ready_mono hj hji)
      obtain ⟨hjun, oj', hoj', hall⟩ := mem_ready.1 hj
      rw [hoj] at hoj'
      cases hoj'
      have hnot : ∀ e ∈ oj.after, Region.binds md e = true → e.on ≠ i := fun e he hb heq => by
        have h1 := hall e he hb
        have h0 := (mem_ready.1 hr).1
        rw [heq] at h1
        rcases Nat.lt_or_ge i listed.size with h' | h'
        · simp [h'] at h0 h1; rw [h0] at h1; cases h1
        · simp [Array.getElem?_eq_none h'] at h1
      obtain ⟨h1, h2, h3⟩ := Oper.apart_spec (hfree j oj hoj hji hjun hnot)
      have hsi := fun cs b => hsel i oi cs b hi
      have hsj := fun cs b => hsel j oj cs b hoj
      refine ⟨oj, vj, hoj, hyj.of_same (execOp_put oj hsj a oi.dst v h1).symm (wanted_put oj a oi.dst v h1).symm, ?_⟩
      refine ih (listed.setIfInBounds j true) (a.put oj.dst vj) (hcl.set_ hj) ?_ (ready_mono hr (Ne.symm hji)) (hy.of_same (execOp_put oi hsi a oj.dst vj h3) (wanted_put oi a oj.dst vj h3)) ?_
      · intro k ok hk hki hun hno
        refine hfree k ok hk hki ?_ hno
        by_cases hjk : j = k
        · subst hjk; exact hjun
        · rw [getD_set_ne true hjk] at hun; exact hun
      · rw [Array.setIfInBounds_comm _ _ hji, ← Act.put_comm a v vj h2]
        exact Hj

/-- One walk in the order of the text, to T. -/
def StepsT (P : Program) (ops : Array Oper) (S : World → Prop) (T : Act → World → Prop) : List Oper → Act → Prop
  | [], a => ∀ z, S z → T a z
  | o :: rest, a => ∃ v, Mild P ops S o v a ∧ StepsT P ops S T rest (a.put o.dst v)

/-- The k-th operation comes up alone, and not ahead of any of those before it. -/
def barOk (ops : Array Oper) (k : Nat) : Bool :=
  decide (k < ops.size) && (Region.ready .any ops (listedN ops.size k) == [k]) && (List.range k).all fun m => !(closedB ops ((listedN ops.size k).setIfInBounds m false)) || !(Region.ready .any ops ((listedN ops.size k).setIfInBounds m false)).contains k

theorem listedN_get {n k m : Nat} (h : (listedN n k).getD m false = true) : m < k := by
  unfold listedN at h
  rcases Nat.lt_or_ge m n with h' | h'
  · simpa [h'] using h
  · simp [h'] at h

theorem stepsT_wpT {k1 : Nat} (hok : textOk ops = true) (hk1 : k1 ≤ ops.size)
    (hE : ∀ j ∈ Region.ready .any ops (listedN ops.size k1), ∀ m, (listedN ops.size k1).getD m false = true → Closed .any ops ((listedN ops.size k1).setIfInBounds m false) → j ∉ Region.ready .any ops ((listedN ops.size k1).setIfInBounds m false)) :
    ∀ (rest : List Oper) (k : Nat) (a : Act), (ops.toList.take k1).drop k = rest → k ≤ k1 → Closed .any ops (listedN ops.size k) → StepsT P ops S T rest a → wpT P .any ops S T (listedN ops.size k1) (k1 - k) (listedN ops.size k) a := by
  simp only [textOk, Bool.and_eq_true, List.all_eq_true, List.mem_range] at hok
  intro rest
  induction rest with
  | nil =>
    intro k a hd hk hcl h
    have hl : k1 ≤ k := by
      have := congrArg List.length hd
      simp at this
      omega
    have hz : k1 - k = 0 := by omega
    have he : k = k1 := by omega
    rw [hz, he]
    exact ⟨rfl, h⟩
  | cons o rest ih =>
    intro k a hd hk hcl h
    obtain ⟨v, hm, hs⟩ := h
    have hkl : k < k1 := by
      rcases Nat.lt_or_ge k k1 with h1 | h1
      · exact h1
      · rw [List.drop_eq_nil_of_le (by simp; omega)] at hd; cases hd
    have hd2 := List.drop_eq_getElem_cons (l := ops.toList.take k1) (i := k) (by simp; omega)
    rw [hd] at hd2
    injection hd2 with h1 h2
    have hget : ops[k]? = some o := by
      rw [Array.getElem?_eq_getElem (by omega), h1]
      simp
    obtain ⟨hr, hf⟩ := hok.2 k (by omega)
    have he : k1 - k = (k1 - (k + 1)) + 1 := by omega
    rw [he]
    have hr' : k ∈ Region.ready .any ops (listedN ops.size k) := by simpa using hr
    refine takeT hget (Region.noSelect_spec hok.1) hE _ _ a hcl (Region.free_spec hget hf) hr' hm ?_
    rw [listedN_set]
    exact ih (k + 1) _ h2.symm (by omega) (by rw [← listedN_set]; exact hcl.set_ hr') hs

/-- THE LAW. -/
theorem wp_region_bar {id : Nat} {a : Act} {w : World} (k : Nat) (hm : P.follows .mixedOrders = true) (hok : textOk ops = true) (hbar : barOk ops k = true)
    (h : StepsT P ops (Below w.heap.size w) (fun a' z => wpOp P ops Q k (fun a2 z2 => ∃ S' : World → Prop, S' z2 ∧ Steps P ops Q S' (ops.toList.drop (k + 1)) a2) a' z) (ops.toList.take k) a) : (Code.region id ops true).wp P Q a w := by
  simp only [barOk, Bool.and_eq_true, decide_eq_true_eq, beq_iff_eq, List.all_eq_true, List.mem_range, Bool.or_eq_true, Bool.not_eq_true', List.contains_eq_mem, decide_eq_false_iff_not] at hbar
  obtain ⟨⟨hk, hr⟩, hE⟩ := hbar
  refine wp_region_any hm ?_
  have h1 := stepsT_wpT (k1 := k) hok (Nat.le_of_lt hk) (by
    intro j hj m hm' hcl
    rw [hr] at hj
    simp at hj
    subst hj
    exact (hE m (listedN_get hm')).resolve_left (by rw [hcl.toB]; simp)) (ops.toList.take k) 0 a (by simp) (Nat.zero_le _) (by
      intro j o _ hl
      have := listedN_get hl
      omega) h
  have h2 : listedN ops.size 0 = Array.replicate ops.size false := by
    unfold listedN
    apply Array.ext
    · simp
    · intro i _ _; simp
  rw [Nat.sub_zero, h2] at h1
  have hT : ∀ a' z, wpOp P ops Q k (fun a2 z2 => ∃ S' : World → Prop, S' z2 ∧ Steps P ops Q S' (ops.toList.drop (k + 1)) a2) a' z → wpAny P .any ops Q (ops.size - k) (listedN ops.size k) a' z := by
    intro a' z hw
    rw [show ops.size - k = (ops.size - (k + 1)) + 1 from by omega]
    refine ⟨fun h0 => (by rw [hr] at h0; cases h0), fun i hi => ?_⟩
    rw [hr] at hi
    simp at hi
    subst hi
    refine wpOp_mono (fun a2 z2 ⟨S', hs, hst⟩ => ?_) hw
    rw [listedN_set]
    exact wpB_any _ _ _ (steps_wpB hok _ (i + 1) a2 rfl (by omega) hst) z2 hs
  have h3 := wpT_any hT _ _ _ h1 { w with drawn := w.drawn + 1 } ⟨rfl, rfl, rfl, Nat.le_refl _, fun _ _ => rfl⟩
  rwa [show k + (ops.size - k) = ops.size from by omega] at h3

theorem stepT_val {o : Oper} {rest : List Oper} {a : Act} {v : Value} (hw : Region.wanted o (yielded ops a.tmps) = true)
    (hy : ∀ z, S z → (execOp a.eval o).run P z = .ok (.value v) z) (hr : StepsT P ops S T rest (a.put o.dst v)) : StepsT P ops S T (o :: rest) a :=
  ⟨v, .inl ⟨hw, fun z hz => by rw [hy z hz]; exact ⟨rfl, hz⟩⟩, hr⟩
theorem stepT_call {o : Oper} {rest : List Oper} {a : Act} {v : Value} {f : FuncId} {args : Array Value} (hw : Region.wanted o (yielded ops a.tmps) = true)
    (hy : ∀ z, S z → (execOp a.eval o).run P z = .ok (.enter f args) z) (hc : ∀ z, S z → Calls P f args z fun e z' => e = .returned v ∧ S z') (hr : StepsT P ops S T rest (a.put o.dst v)) : StepsT P ops S T (o :: rest) a :=
  ⟨v, .inl ⟨hw, fun z hz => by rw [hy z hz]; exact hc z hz⟩, hr⟩
theorem stepT_skip {o : Oper} {rest : List Oper} {a : Act} (hw : Region.wanted o (yielded ops a.tmps) = false)
    (hr : StepsT P ops S T rest (a.put o.dst undef)) : StepsT P ops S T (o :: rest) a := ⟨undef, .inr ⟨hw, rfl⟩, hr⟩
theorem stepT_end {a : Act} (h : ∀ z, S z → T a z) : StepsT P ops S T [] a := h
theorem bar_val {i : Nat} {o : Oper} {rest : List Oper} {a : Act} {v : Value} {z z' : World} (hd : ops.toList.drop i = o :: rest) (hw : Region.wanted o (yielded ops a.tmps) = true)
    (hy : (execOp a.eval o).run P z = .ok (.value v) z') (h : Steps P ops Q (Below z'.heap.size z') rest (a.put o.dst v)) :
    wpOp P ops Q i (fun a2 z2 => ∃ S' : World → Prop, S' z2 ∧ Steps P ops Q S' (ops.toList.drop (i + 1)) a2) a z := by
  have hl : i < ops.size := by
    rcases Nat.lt_or_ge i ops.size with h1 | h1
    · exact h1
    · rw [List.drop_eq_nil_of_le (by simpa using h1)] at hd; cases hd
  have hc := List.drop_eq_getElem_cons (l := ops.toList) (i := i) (by simpa using hl)
  rw [hd] at hc
  injection hc with e1 e2
  have hi : ops[i]? = some o := by rw [Array.getElem?_eq_getElem hl, e1]; simp
  unfold wpOp
  simp only [hi, hw, if_true]
  refine .inl ?_
  unfold Oper.wp
  rw [hy, ← e2]
  exact ⟨_, Below.refl _ _, h⟩
/-- The last one stores. -/
theorem bar_store {i : Nat} {o : Oper} {rest : List Oper} {a : Act} {z z' : World} (hd : ops.toList.drop i = o :: rest) (hn : o.dst = none) (hw : Region.wanted o (yielded ops a.tmps) = true)
    (hy : (execOp a.eval o).run P z = .ok .skip z') (h : Steps P ops Q (fun x => x = z') rest a) :
    wpOp P ops Q i (fun a2 z2 => ∃ S' : World → Prop, S' z2 ∧ Steps P ops Q S' (ops.toList.drop (i + 1)) a2) a z := by
  have hl : i < ops.size := by
    rcases Nat.lt_or_ge i ops.size with h1 | h1
    · exact h1
    · rw [List.drop_eq_nil_of_le (by simpa using h1)] at hd; cases hd
  have hc := List.drop_eq_getElem_cons (l := ops.toList) (i := i) (by simpa using hl)
  rw [hd] at hc
  injection hc with e1 e2
  have hi : ops[i]? = some o := by rw [Array.getElem?_eq_getElem hl, e1]; simp
  unfold wpOp
  simp only [hi, hw, if_true]
  refine .inl ?_
  unfold Oper.wp
  rw [hy, ← e2]
  simp only [Oper.upon, hn]
  exact ⟨fun x => x = z', rfl, h⟩
end
end Go.Proofs.Ytamhngjhgdmgbaa
