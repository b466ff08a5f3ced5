/- A law for a statement whose order is open: if each operation reads, or calls what only makes new memory, one walk in the order of the text serves every order. No function of the program is named here. -/
import Derived.Test.YtamhngjhgdmgbaaBase
import Derived.OrdersHeld
namespace Go.Proofs.Ytamhngjhgdmgbaa
open Go.RowKit

section
variable {P : Program} {ops : Array Oper} {Q : Exit → Act → World → Prop} {md : Region.Mode} {S : World → Prop}

/-- What an operation's run comes to: a value at once, or a call that returns it; behind it S holds. -/
def Leaves (P : Program) (S : World → Prop) (v : Value) : Result Next → Prop
  | .ok (.value u) z => u = v ∧ S z
  | .ok (.enter f args) z => Calls P f args z fun e z' => e = .returned v ∧ S z'
  | _ => False

/-- In every world that meets S the operation leaves v in its slot, and a world that meets S. -/
def Mild (P : Program) (ops : Array Oper) (S : World → Prop) (o : Oper) (v : Value) (a : Act) : Prop :=
  (Region.wanted o (yielded ops a.tmps) = true ∧ ∀ z, S z → Leaves P S v ((execOp a.eval o).run P z)) ∨
  (Region.wanted o (yielded ops a.tmps) = false ∧ v = undef)

theorem Mild.of_same {o : Oper} {v : Value} {a a' : Act} (hy : Mild P ops S o v a) (he : execOp a'.eval o = execOp a.eval o)
    (hw : Region.wanted o (yielded ops a'.tmps) = Region.wanted o (yielded ops a.tmps)) : Mild P ops S o v a' := by
  unfold Mild at *
  rw [he, hw]
  exact hy

theorem Mild.wp {i : Nat} {o : Oper} {v : Value} {a : Act} (hi : ops[i]? = some o) (hy : Mild P ops S o v a)
    {K : Act → World → Prop} {w : World} (hS : S w) (h : ∀ z, S z → K (a.put o.dst v) z) : wpOp P ops Q i K a w := by
  unfold Go.wpOp
  simp only [hi]
  rcases hy with ⟨hw, hv⟩ | ⟨hw, rfl⟩
  · simp only [hw, if_true]
    refine .inl ?_
    have hl := hv w hS
    unfold Oper.wp
    generalize (execOp a.eval o).run P w = r at hl
    cases r with
    | ok n z =>
      cases n <;> simp only [Leaves] at hl
      case value u => obtain ⟨rfl, hz⟩ := hl; exact h _ hz
      case enter f args =>
        simp only [Oper.upon]
        refine Calls.mono hl fun e z' he => ?_
        obtain ⟨rfl, hz⟩ := he
        exact h _ hz
    | halt x z => simp only [Leaves] at hl
  · simp only [hw, Bool.false_eq_true, if_false]; exact h _ hS

/-- Whatever comes up next is mild, and so on to the end. -/
def wpB (P : Program) (md : Region.Mode) (ops : Array Oper) (Q : Exit → Act → World → Prop) (S : World → Prop) : Nat → Array Bool → Act → Prop
  | 0, listed, a => Region.ready md ops listed = [] ∧ ∀ z, S z → Q .normal a z
  | fuel + 1, listed, a => (Region.ready md ops listed = [] → ∀ z, S z → Q .normal a z) ∧
    ∀ i ∈ Region.ready md ops listed, ∃ o v, ops[i]? = some o ∧ Mild P ops S o v a ∧ wpB P md ops Q S fuel (listed.setIfInBounds i true) (a.put o.dst v)

theorem wpB_any : ∀ (fuel : Nat) (listed : Array Bool) (a : Act), wpB P md ops Q S fuel listed a → ∀ z, S z → wpAny P md ops Q fuel listed a z
  | 0, _, _, h, z, hz => ⟨h.1, h.2 z hz⟩
  | fuel + 1, _, _, h, z, hz => ⟨fun h0 => h.1 h0 z hz, fun i hi => by
      obtain ⟨o, v, ho, hm, hr⟩ := h.2 i hi
      exact hm.wp ho hz (wpB_any fuel _ _ hr)⟩

theorem takeB {i : Nat} {oi : Oper} {v : Value} (hi : ops[i]? = some oi) (hsel : ∀ (j : Nat) (o : Oper) cs b, ops[j]? = some o → o.op ≠ .select cs b) :
    ∀ (fuel : Nat) (listed : Array Bool) (a : Act),
      (∀ j oj, ops[j]? = some oj → j ≠ i → listed.getD j true = false → (∀ e ∈ oj.after, Region.binds md e = true → e.on ≠ i) → oi.apart ops oj = true) →
      i ∈ Region.ready md ops listed → Mild P ops S oi v a →
      wpB P md ops Q S fuel (listed.setIfInBounds i true) (a.put oi.dst v) → wpB P md ops Q S (fuel + 1) listed a := by
  intro fuel
  induction fuel with
  | zero =>
    intro listed a _ hr hy H
    refine ⟨fun h => (by rw [h] at hr; cases hr), fun j hj => ?_⟩
    by_cases hji : j = i
    · subst hji; exact ⟨oi, v, hi, hy, H⟩
    · have := ready_mono hj hji
      rw [H.1] at this
      cases this
  | succ fuel ih =>
    intro listed a hfree hr hy H
    refine ⟨fun h => (by rw [h] at hr; cases hr), fun j hj => ?_⟩
    by_cases hji : j = i
    · subst hji; exact ⟨oi, v, hi, hy, H⟩
    · obtain ⟨oj, vj, hoj, hyj, Hj⟩ := H.2 j (ready_mono hj hji)
      obtain ⟨hjun, oj', hoj', hall⟩ := mem_ready.1 hj
      rw [hoj] at hoj'
      cases hoj'
      have hnot : ∀ e ∈ oj.after, Region.binds md e = true → e.on ≠ i := fun e he hb heq => by
        have h1 := hall e he hb
        have h0 := (mem_ready.1 hr).1
        rw [heq] at h1
        rcases Nat.lt_or_ge i listed.size with h' | h'
        · simp [h'] at h0 h1; rw [h0] at h1; cases h1
        · simp [Array.getElem?_eq_none h'] at h1
      obtain ⟨h1, h2, h3⟩ := Oper.apart_spec (hfree j oj hoj hji hjun hnot)
      have hsi := fun cs b => hsel i oi cs b hi
      have hsj := fun cs b => hsel j oj cs b hoj
      refine ⟨oj, vj, hoj, hyj.of_same (execOp_put oj hsj a oi.dst v h1).symm (wanted_put oj a oi.dst v h1).symm, ?_⟩
      refine ih (listed.setIfInBounds j true) (a.put oj.dst vj) ?_ (ready_mono hr (Ne.symm hji)) (hy.of_same (execOp_put oi hsi a oj.dst vj h3) (wanted_put oi a oj.dst vj h3)) ?_
      · intro k ok hk hki hun hno
        refine hfree k ok hk hki ?_ hno
        by_cases hjk : j = k
        · subst hjk; exact hjun
        · rw [getD_set_ne true hjk] at hun; exact hun
      · rw [Array.setIfInBounds_comm _ _ hji, ← Act.put_comm a v vj h2]
        exact Hj

/-- The first k of n are done. -/
def listedN (n k : Nat) : Array Bool := ((List.range n).map fun i => decide (i < k)).toArray
theorem listedN_set {n k : Nat} : (listedN n k).setIfInBounds k true = listedN n (k + 1) := by
  unfold listedN
  apply Array.ext
  · simp
  · intro i h1 h2
    simp at h1 h2
    simp [List.getElem_set]
    rw [Bool.eq_iff_iff]; simp; omega
/-- Each operation may come up in the order of the text, and none that is left touches it. -/
def textOk (ops : Array Oper) : Bool :=
  Region.noSelect ops && (List.range ops.size).all fun k => (Region.ready .any ops (listedN ops.size k)).contains k && Region.free .any ops (listedN ops.size k) k

/-- One walk in the order of the text. -/
def Steps (P : Program) (ops : Array Oper) (Q : Exit → Act → World → Prop) (S : World → Prop) : List Oper → Act → Prop
  | [], a => ∀ z, S z → Q .normal a z
  | o :: rest, a => ∃ v, Mild P ops S o v a ∧ Steps P ops Q S rest (a.put o.dst v)

theorem steps_wpB (hok : textOk ops = true) : ∀ (rest : List Oper) (k : Nat) (a : Act), ops.toList.drop k = rest → k ≤ ops.size → Steps P ops Q S rest a → wpB P .any ops Q S (ops.size - k) (listedN ops.size k) a := by
  simp only [textOk, Bool.and_eq_true, List.all_eq_true, List.mem_range] at hok
  intro rest
  induction rest with
  | nil =>
    intro k a hd hk h
    have hl : ops.size ≤ k := by
      have := congrArg List.length hd
      simp at this
      omega
    have hz : ops.size - k = 0 := by omega
    rw [hz]
    refine ⟨?_, h⟩
    rw [List.eq_nil_iff_forall_not_mem]
    intro j hj
    obtain ⟨h0, o, ho, _⟩ := mem_ready.1 hj
    have hjl := (Array.getElem?_eq_some_iff.1 ho).1
    have hf : (listedN ops.size k).getD j true = true := by
      unfold listedN
      simp [hjl]
      omega
    rw [hf] at h0
    cases h0
  | cons o rest ih =>
    intro k a hd hk h
    obtain ⟨v, hm, hs⟩ := h
    have hkl : k < ops.size := by
      rcases Nat.lt_or_ge k ops.size with h1 | h1
      · exact h1
      · rw [List.drop_eq_nil_of_le (by simpa using h1)] at hd; cases hd
    have hget : ops[k]? = some o := by
      have := List.drop_eq_getElem_cons (l := ops.toList) (i := k) (by simpa using hkl)
      rw [hd] at this
      injection this with h1 h2
      rw [Array.getElem?_eq_getElem hkl, h1]
      simp
    have hrest : ops.toList.drop (k + 1) = rest := by
      have := List.drop_eq_getElem_cons (l := ops.toList) (i := k) (by simpa using hkl)
      rw [hd] at this
      injection this with h1 h2
      exact h2.symm
    obtain ⟨hr, hf⟩ := hok.2 k hkl
    have he : ops.size - k = (ops.size - (k + 1)) + 1 := by omega
    rw [he]
    refine takeB hget (Region.noSelect_spec hok.1) _ _ a (Region.free_spec hget hf) (by simpa using hr) hm ?_
    rw [listedN_set]
    exact ih (k + 1) _ hrest (by omega) hs

/-- THE LAW: a region that draws its order. -/
theorem wp_region_text {id : Nat} {a : Act} {w : World} (hm : P.follows .mixedOrders = true) (hok : textOk ops = true)
    (h : Steps P ops Q (Below w.heap.size w) ops.toList a) : (Code.region id ops true).wp P Q a w := by
  refine wp_region_any hm ?_
  have h1 := steps_wpB (Q := Q) (S := Below w.heap.size w) hok ops.toList 0 a (by simp) (Nat.zero_le _) h
  have h2 : listedN ops.size 0 = Array.replicate ops.size false := by
    unfold listedN
    apply Array.ext
    · simp
    · intro i _ _; simp
  rw [Nat.sub_zero, h2] at h1
  exact wpB_any _ _ _ h1 _ ⟨rfl, rfl, rfl, Nat.le_refl _, fun _ _ => rfl⟩

theorem step_val {o : Oper} {rest : List Oper} {a : Act} {v : Value} (hw : Region.wanted o (yielded ops a.tmps) = true)
    (hy : ∀ z, S z → (execOp a.eval o).run P z = .ok (.value v) z) (hr : Steps P ops Q S rest (a.put o.dst v)) : Steps P ops Q S (o :: rest) a :=
  ⟨v, .inl ⟨hw, fun z hz => by rw [hy z hz]; exact ⟨rfl, hz⟩⟩, hr⟩
theorem step_call {o : Oper} {rest : List Oper} {a : Act} {v : Value} {f : FuncId} {args : Array Value} (hw : Region.wanted o (yielded ops a.tmps) = true)
    (hy : ∀ z, S z → (execOp a.eval o).run P z = .ok (.enter f args) z) (hc : ∀ z, S z → Calls P f args z fun e z' => e = .returned v ∧ S z') (hr : Steps P ops Q S rest (a.put o.dst v)) : Steps P ops Q S (o :: rest) a :=
  ⟨v, .inl ⟨hw, fun z hz => by rw [hy z hz]; exact hc z hz⟩, hr⟩
theorem step_skip {o : Oper} {rest : List Oper} {a : Act} (hw : Region.wanted o (yielded ops a.tmps) = false)
    (hr : Steps P ops Q S rest (a.put o.dst undef)) : Steps P ops Q S (o :: rest) a := ⟨undef, .inr ⟨hw, rfl⟩, hr⟩
theorem steps_end {a : Act} (h : ∀ z, S z → Q .normal a z) : Steps P ops Q S [] a := h
/-- A call's contract, in a world that the region has grown. -/
theorem grown_call {f : FuncId} {args : Array Value} {w z : World} {v : Value} (hz : Below w.heap.size w z)
    (h : Calls P f args z fun e z' => e = .returned v ∧ Below z.heap.size z z') : Calls P f args z fun e z' => e = .returned v ∧ Below w.heap.size w z' :=
  h.mono fun _ _ ⟨he, hb⟩ => ⟨he, hz.trans (hb.mono hz.size)⟩
theorem quiet_call {f : FuncId} {args : Array Value} {w z : World} {v : Value} (hz : Below w.heap.size w z)
    (h : Calls P f args z fun e z' => e = .returned v ∧ z = z') : Calls P f args z fun e z' => e = .returned v ∧ Below w.heap.size w z' :=
  h.mono fun _ _ ⟨he, hb⟩ => ⟨he, hb ▸ hz⟩
end
end Go.Proofs.Ytamhngjhgdmgbaa
