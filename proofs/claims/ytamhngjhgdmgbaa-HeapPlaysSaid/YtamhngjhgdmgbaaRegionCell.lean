/- A law for a statement whose order is open and which makes one new variable: the block may come up at any time, its store when it may; all else reads, or calls what only makes new memory. One walk in the order of the text serves every order. No function of the program is named here. -/
import Derived.Test.YtamhngjhgdmgbaaRegion
import Derived.Test.YtamhngjhgdmgbaaTimes
namespace Go.Proofs.Ytamhngjhgdmgbaa
open Go.RowKit

/-- Old blocks read as they did. -/
theorem bkeep {W w1 : World} (hb : Below W.heap.size W w1) : (∀ b o, b < W.heap.size → w1.cell? ⟨b, o, none⟩ = W.cell? ⟨b, o, none⟩) ∧ (∀ b o, b < W.heap.size → w1.frozen? ⟨b, o, none⟩ = W.frozen? ⟨b, o, none⟩) :=
  ⟨fun b o h => hb.cell (p := ⟨b, o, none⟩) h, fun b o h => hb.frozen (p := ⟨b, o, none⟩) h⟩

/-- How far the new variable is. -/
inductive Ph where
  | no
  | made (b : Nat)
  | full (b : Nat)

section
variable {P : Program} {ops : Array Oper} {Q : Exit → Act → World → Prop} {md : Region.Mode} {w0 : World} {cs0 cs1 : Array Value} {t : TypeId} {dA : Tmp} {kA kS : Nat}

def InvPh (w0 : World) (cs0 cs1 : Array Value) (t : TypeId) : Ph → World → Prop
  | .no, z => Below w0.heap.size w0 z
  | .made b, z => Below w0.heap.size w0 z ∧ w0.heap.size ≤ b ∧ Blk z b t cs0
  | .full b, z => Below w0.heap.size w0 z ∧ w0.heap.size ≤ b ∧ Blk z b t cs1

theorem InvPh.below {ph : Ph} {z : World} (h : InvPh w0 cs0 cs1 t ph z) : Below w0.heap.size w0 z := by
  cases ph with
  | no => exact h
  | made b => exact h.1
  | full b => exact h.1
theorem Blk.grow {z z' : World} {b : Nat} {t : TypeId} {cs : Array Value} (h : Blk z b t cs) (hb : Below z.heap.size z z') : Blk z' b t cs := by
  have hl := h.lt
  unfold Blk at *
  rw [hb.block b hl]; exact h
theorem InvPh.grow {ph : Ph} {z z' : World} (h : InvPh w0 cs0 cs1 t ph z) (hb : Below z.heap.size z z') : InvPh w0 cs0 cs1 t ph z' := by
  have hB := h.below.trans (hb.mono h.below.size)
  cases ph with
  | no => exact hB
  | made b => exact ⟨hB, h.2.1, h.2.2.grow hb⟩
  | full b => exact ⟨hB, h.2.1, h.2.2.grow hb⟩

/-- What an operation's run comes to: a value at once, or a call that returns it; memory only grows. -/
def Grows (P : Program) (z : World) (v : Value) : Result Next → Prop
  | .ok (.value u) z1 => u = v ∧ Below z.heap.size z z1
  | .ok (.enter f args) z1 => z1 = z ∧ Calls P f args z fun e z' => e = .returned v ∧ Below z.heap.size z z'
  | _ => False
def Mild2 (P : Program) (ops : Array Oper) (w0 : World) (o : Oper) (v : Value) (a : Act) : Prop :=
  (Region.wanted o (yielded ops a.tmps) = true ∧ ∀ z, Below w0.heap.size w0 z → Grows P z v ((execOp a.eval o).run P z)) ∨
  (Region.wanted o (yielded ops a.tmps) = false ∧ v = undef)
theorem Mild2.of_same {o : Oper} {v : Value} {a a' : Act} (hy : Mild2 P ops w0 o v a) (he : execOp a'.eval o = execOp a.eval o)
    (hw : Region.wanted o (yielded ops a'.tmps) = Region.wanted o (yielded ops a.tmps)) : Mild2 P ops w0 o v a' := by
  unfold Mild2 at *
  rw [he, hw]
  exact hy
/-- The same, a value at once. -/
def MildV (P : Program) (ops : Array Oper) (w0 : World) (o : Oper) (v : Value) (a : Act) : Prop :=
  (Region.wanted o (yielded ops a.tmps) = true ∧ ∀ z, Below w0.heap.size w0 z → ∃ z1, (execOp a.eval o).run P z = .ok (.value v) z1 ∧ Below z.heap.size z z1) ∨
  (Region.wanted o (yielded ops a.tmps) = false ∧ v = undef)
theorem MildV.mild {o : Oper} {v : Value} {a : Act} (h : MildV P ops w0 o v a) : Mild2 P ops w0 o v a := by
  rcases h with ⟨hw, h⟩ | h
  · exact .inl ⟨hw, fun z hz => by obtain ⟨z1, he, hb⟩ := h z hz; rw [he]; exact ⟨rfl, hb⟩⟩
  · exact .inr h
theorem MildV.one {o : Oper} {v v' : Value} {a : Act} (h : MildV P ops w0 o v a) (h' : MildV P ops w0 o v' a) : v = v' := by
  rcases h with ⟨hw, h⟩ | ⟨hw, h⟩ <;> rcases h' with ⟨hw', h'⟩ | ⟨hw', h'⟩
  · obtain ⟨z1, he, _⟩ := h w0 (Below.refl _ _)
    obtain ⟨z2, he', _⟩ := h' w0 (Below.refl _ _)
    rw [he] at he'
    injection he' with e1 e2
    injection e1
  · rw [hw] at hw'; cases hw'
  · rw [hw] at hw'; cases hw'
  · rw [h, h']
/-- Ahead of the new variable anything mild; behind it values at once. -/
def MildK (P : Program) (ops : Array Oper) (w0 : World) (kA i : Nat) (o : Oper) (v : Value) (a : Act) : Prop := if i < kA then Mild2 P ops w0 o v a else MildV P ops w0 o v a
theorem MildK.mild {i : Nat} {o : Oper} {v : Value} {a : Act} (h : MildK P ops w0 kA i o v a) : Mild2 P ops w0 o v a := by
  unfold MildK at h
  split at h
  · exact h
  · exact h.mild
theorem MildK.of_same {i : Nat} {o : Oper} {v : Value} {a a' : Act} (hy : MildK P ops w0 kA i o v a) (he : execOp a'.eval o = execOp a.eval o)
    (hw : Region.wanted o (yielded ops a'.tmps) = Region.wanted o (yielded ops a.tmps)) : MildK P ops w0 kA i o v a' := by
  unfold MildK Mild2 MildV at *
  rw [he, hw]
  exact hy
def StoreOk (P : Program) (ops : Array Oper) (w0 : World) (cs0 cs1 : Array Value) (t : TypeId) (kS : Nat) (a : Act) (b : Nat) : Prop :=
  ∃ o, ops[kS]? = some o ∧ o.dst = none ∧ Region.wanted o (yielded ops a.tmps) = true ∧
    ∀ z, InvPh w0 cs0 cs1 t (.made b) z → ∃ z', (execOp a.eval o).run P z = .ok .skip z' ∧ InvPh w0 cs0 cs1 t (.full b) z'
def AllocOk (P : Program) (ops : Array Oper) (cs0 : Array Value) (t : TypeId) (dA : Tmp) (kA : Nat) : Prop :=
  ∃ o, ops[kA]? = some o ∧ o.dst = some dA ∧ o.guard = none ∧ ∀ (a : Act) z, (execOp a.eval o).run P z = .ok (.value (.pointer (some ⟨z.heap.size, 0, none⟩))) (z.alloc (.cells cs0 t))

/-- Whatever comes up next does as it should, to the end. -/
def wpG (P : Program) (md : Region.Mode) (ops : Array Oper) (Q : Exit → Act → World → Prop) (w0 : World) (cs0 cs1 : Array Value) (t : TypeId) (dA : Tmp) (kA kS : Nat) : Nat → Array Bool → Act → Ph → Prop
  | 0, L, a, ph => Region.ready md ops L = [] ∧ ∀ z, InvPh w0 cs0 cs1 t ph z → Q .normal a z
  | n + 1, L, a, ph => Region.ready md ops L ≠ [] ∧ ∀ i ∈ Region.ready md ops L,
      (i = kA ∧ ph = .no ∧ ∀ b, w0.heap.size ≤ b → wpG P md ops Q w0 cs0 cs1 t dA kA kS n (L.setIfInBounds i true) (a.put (some dA) (.pointer (some ⟨b, 0, none⟩))) (.made b)) ∨
      (i = kS ∧ ∃ b, ph = .made b ∧ StoreOk P ops w0 cs0 cs1 t kS a b ∧ wpG P md ops Q w0 cs0 cs1 t dA kA kS n (L.setIfInBounds i true) a (.full b)) ∨
      (i ≠ kA ∧ i ≠ kS ∧ ∃ o v, ops[i]? = some o ∧ MildK P ops w0 kA i o v a ∧ wpG P md ops Q w0 cs0 cs1 t dA kA kS n (L.setIfInBounds i true) (a.put o.dst v) ph)

theorem wpG_any (hA : AllocOk P ops cs0 t dA kA) : ∀ (n : Nat) (L : Array Bool) (a : Act) (ph : Ph), wpG P md ops Q w0 cs0 cs1 t dA kA kS n L a ph → ∀ z, InvPh w0 cs0 cs1 t ph z → wpAny P md ops Q n L a z := by
  intro n
  induction n with
  | zero => intro L a ph h z hz; exact ⟨h.1, h.2 z hz⟩
  | succ n ih =>
    intro L a ph h z hz
    refine ⟨fun h0 => absurd h0 h.1, fun i hi => ?_⟩
    rcases h.2 i hi with ⟨rfl, rfl, hr⟩ | ⟨rfl, b, rfl, ⟨o, ho, hd, hw, hrun⟩, hr⟩ | ⟨_, _, o, v, ho, hm, hr⟩
    · obtain ⟨o, ho, hd, hg, hrun⟩ := hA
      unfold wpOp
      simp only [ho]
      have hw : Region.wanted o (yielded ops a.tmps) = true := by unfold Region.wanted; rw [hg]
      simp only [hw, if_true]
      refine .inl ?_
      unfold Oper.wp
      rw [hrun]
      simp only [Oper.upon, hd]
      refine ih _ _ _ (hr z.heap.size (InvPh.below hz).size) _ ?_
      exact ⟨(InvPh.below hz).alloc (InvPh.below hz).size _, (InvPh.below hz).size, Blk.new z t cs0⟩
    · obtain ⟨z', he, hz'⟩ := hrun z hz
      unfold wpOp
      simp only [ho, hw, if_true]
      refine .inl ?_
      unfold Oper.wp
      rw [he]
      simp only [Oper.upon, hd]
      exact ih _ _ _ hr z' hz'
    · unfold wpOp
      simp only [ho]
      rcases hm.mild with ⟨hw, hv⟩ | ⟨hw, hv⟩
      · simp only [hw, if_true]
        refine .inl ?_
        have hl := hv z hz.below
        unfold Oper.wp
        generalize (execOp a.eval o).run P z = r at hl
        cases r with
        | ok nx z1 =>
          cases nx <;> simp only [Grows] at hl
          case value u => obtain ⟨rfl, hg⟩ := hl; exact ih _ _ _ hr _ (hz.grow hg)
          case enter f args =>
            obtain ⟨rfl, hl⟩ := hl
            simp only [Oper.upon]
            refine Calls.mono hl fun e z' he => ?_
            obtain ⟨rfl, hg⟩ := he
            exact ih _ _ _ hr _ (hz.grow hg)
        | halt x z1 => simp only [Grows] at hl
      · simp only [hw, Bool.false_eq_true, if_false]
        rw [hv] at hr
        exact ih _ _ _ hr _ hz

theorem unlisted_after {i : Nat} {L : Array Bool} {j : Nat} {oj : Oper} (hi : i ∈ Region.ready md ops L) (hoj : ops[j]? = some oj) (hj : j ∈ Region.ready md ops L) :
    ∀ e ∈ oj.after, Region.binds md e = true → e.on ≠ i := fun e he hb heq => by
  obtain ⟨_, oj', hoj', hall⟩ := mem_ready.1 hj
  rw [hoj] at hoj'
  cases hoj'
  have h1 := hall e he hb
  have h0 := (mem_ready.1 hi).1
  rw [heq] at h1
  rcases Nat.lt_or_ge i L.size with h' | h'
  · simp [h'] at h0 h1; rw [h0] at h1; cases h1
  · simp [Array.getElem?_eq_none h'] at h1

/-- That an operation touches nothing that is left. -/
def Lone (md : Region.Mode) (ops : Array Oper) (i : Nat) (oi : Oper) (L : Array Bool) : Prop :=
  ∀ j oj, ops[j]? = some oj → j ≠ i → L.getD j true = false → (∀ e ∈ oj.after, Region.binds md e = true → e.on ≠ i) → oi.apart ops oj = true
theorem Lone.set {i : Nat} {oi : Oper} {L : Array Bool} (h : Lone md ops i oi L) (j : Nat) (hj : L.getD j true = false) : Lone md ops i oi (L.setIfInBounds j true) := by
  intro k ok hk hki hun hno
  refine h k ok hk hki ?_ hno
  by_cases hjk : j = k
  · subst hjk; exact hj
  · rw [getD_set_ne true hjk] at hun; exact hun

theorem StoreOk.of_put {a : Act} {b : Nat} {dst : Option Tmp} {v : Value} {oS : Oper} (hoS : ops[kS]? = some oS) (hsel : ∀ cs b, oS.op ≠ .select cs b) (h : ∀ d, dst = some d → d ∉ oS.looksAt ops) :
    StoreOk P ops w0 cs0 cs1 t kS (a.put dst v) b ↔ StoreOk P ops w0 cs0 cs1 t kS a b := by
  unfold StoreOk
  constructor
  · rintro ⟨o, ho, hd, hw, hr⟩
    rw [hoS] at ho; cases ho
    rw [wanted_put oS a dst v h] at hw
    rw [execOp_put oS hsel a dst v h] at hr
    exact ⟨oS, hoS, hd, hw, hr⟩
  · rintro ⟨o, ho, hd, hw, hr⟩
    rw [hoS] at ho; cases ho
    refine ⟨oS, hoS, hd, ?_, ?_⟩
    · rw [wanted_put oS a dst v h]; exact hw
    · rw [execOp_put oS hsel a dst v h]; exact hr

theorem takeG {i : Nat} {oi : Oper} {v : Value} (hi : ops[i]? = some oi) (hiA : i ≠ kA) (hiS : i ≠ kS) (hsel : ∀ (j : Nat) (o : Oper) cs b, ops[j]? = some o → o.op ≠ .select cs b) (hA : AllocOk P ops cs0 t dA kA) :
    ∀ (n : Nat) (L : Array Bool) (a : Act) (ph : Ph), Lone md ops i oi L → i ∈ Region.ready md ops L → MildK P ops w0 kA i oi v a →
      wpG P md ops Q w0 cs0 cs1 t dA kA kS n (L.setIfInBounds i true) (a.put oi.dst v) ph → wpG P md ops Q w0 cs0 cs1 t dA kA kS (n + 1) L a ph := by
  intro n
  induction n with
  | zero =>
    intro L a ph _ hr hy H
    refine ⟨fun h => (by rw [h] at hr; cases hr), fun j hj => ?_⟩
    by_cases hji : j = i
    · subst hji; exact .inr (.inr ⟨hiA, hiS, oi, v, hi, hy, H⟩)
    · have := ready_mono hj hji
      rw [H.1] at this
      cases this
  | succ m ih =>
    intro L a ph hfree hr hy H
    refine ⟨fun h => (by rw [h] at hr; cases hr), fun j hj => ?_⟩
    by_cases hji : j = i
    · subst hji; exact .inr (.inr ⟨hiA, hiS, oi, v, hi, hy, H⟩)
    · have hjun := (mem_ready.1 hj).1
      have hri := ready_mono hr (Ne.symm hji)
      have hL := hfree.set j hjun
      rcases H.2 j (ready_mono hj hji) with ⟨rfl, rfl, hb⟩ | ⟨rfl, b, rfl, hs, hb⟩ | ⟨n1, n2, oj, vj, hoj, hyj, Hj⟩
      · obtain ⟨oA, hoA, hdA, hgA, hrA⟩ := hA
        obtain ⟨h1, h2, h3⟩ := Oper.apart_spec (hfree j oA hoA hji hjun (unlisted_after hr hoA hj))
        rw [hdA] at h2 h3
        refine .inl ⟨rfl, rfl, fun b hbb => ?_⟩
        refine ih _ _ _ hL hri (hy.of_same (execOp_put oi (fun cs b => hsel i oi cs b hi) a (some dA) _ h3) (wanted_put oi a (some dA) _ h3)) ?_
        rw [Array.setIfInBounds_comm _ _ hji, ← Act.put_comm a _ _ (x := oi.dst) (y := some dA) (fun d hd he => h2 d hd he)]
        exact hb b hbb
      · obtain ⟨oS, hoS, hdS, hwS, hrS⟩ := hs
        obtain ⟨h1, h2, h3⟩ := Oper.apart_spec (hfree j oS hoS hji hjun (unlisted_after hr hoS hj))
        refine .inr (.inl ⟨rfl, b, rfl, (StoreOk.of_put hoS (fun cs b => hsel _ oS cs b hoS) h1).1 ⟨oS, hoS, hdS, hwS, hrS⟩, ?_⟩)
        refine ih _ _ _ hL hri hy ?_
        rw [Array.setIfInBounds_comm _ _ hji]
        exact hb
      · obtain ⟨h1, h2, h3⟩ := Oper.apart_spec (hfree j oj hoj hji hjun (unlisted_after hr hoj hj))
        refine .inr (.inr ⟨n1, n2, oj, vj, hoj, hyj.of_same (execOp_put oj (fun cs b => hsel j oj cs b hoj) a oi.dst _ h1).symm (wanted_put oj a oi.dst _ h1).symm, ?_⟩)
        refine ih _ _ _ hL hri (hy.of_same (execOp_put oi (fun cs b => hsel i oi cs b hi) a oj.dst _ h3) (wanted_put oi a oj.dst _ h3)) ?_
        rw [Array.setIfInBounds_comm _ _ hji, ← Act.put_comm a _ _ h2]
        exact Hj

theorem takeA (hA : AllocOk P ops cs0 t dA kA) (hsel : ∀ (j : Nat) (o : Oper) cs b, ops[j]? = some o → o.op ≠ .select cs b) {oA : Oper} (hoA : ops[kA]? = some oA)
    (hSA : ∀ oS, ops[kS]? = some oS → ∃ e ∈ oS.after, Region.binds md e = true ∧ e.on = kA) :
    ∀ (n : Nat) (L : Array Bool) (a : Act), (∀ k, k < kA → L.getD k true = true) → Lone md ops kA oA L → kA ∈ Region.ready md ops L →
      (∀ b, w0.heap.size ≤ b → wpG P md ops Q w0 cs0 cs1 t dA kA kS n (L.setIfInBounds kA true) (a.put (some dA) (.pointer (some ⟨b, 0, none⟩))) (.made b)) → wpG P md ops Q w0 cs0 cs1 t dA kA kS (n + 1) L a .no := by
  obtain ⟨oA', hoA', hdA, hgA, hrA⟩ := hA
  rw [hoA] at hoA'; cases hoA'
  intro n
  induction n with
  | zero =>
    intro L a _ _ hr H
    refine ⟨fun h => (by rw [h] at hr; cases hr), fun j hj => ?_⟩
    by_cases hji : j = kA
    · subst hji; exact .inl ⟨rfl, rfl, H⟩
    · have := ready_mono hj hji
      rw [(H _ (Nat.le_refl _)).1] at this
      cases this
  | succ m ih =>
    intro L a hbef hfree hr H
    refine ⟨fun h => (by rw [h] at hr; cases hr), fun j hj => ?_⟩
    by_cases hji : j = kA
    · subst hji; exact .inl ⟨rfl, rfl, H⟩
    · have hjun := (mem_ready.1 hj).1
      have hri := ready_mono hr (Ne.symm hji)
      have hL := hfree.set j hjun
      have hjS : j ≠ kS := by
        rintro rfl
        obtain ⟨_, oS, hoS, hall⟩ := mem_ready.1 hj
        obtain ⟨e, he, hb, hon⟩ := hSA oS hoS
        exact unlisted_after hr hoS hj e he hb hon
      obtain ⟨_, oj, hoj, _⟩ := mem_ready.1 hj
      obtain ⟨h1, h2, h3⟩ := Oper.apart_spec (hfree j oj hoj hji hjun (unlisted_after hr hoj hj))
      rw [hdA] at h1 h2
      have all : ∀ b, w0.heap.size ≤ b → ∃ v, MildV P ops w0 oj v a ∧ wpG P md ops Q w0 cs0 cs1 t dA kA kS m ((L.setIfInBounds j true).setIfInBounds kA true) ((a.put oj.dst v).put (some dA) (.pointer (some ⟨b, 0, none⟩))) (.made b) := by
        intro b hbb
        rcases (H b hbb).2 j (ready_mono hj hji) with ⟨h, _⟩ | ⟨h, _⟩ | ⟨_, _, oj', v, hoj', hyj, Hj⟩
        · exact absurd h hji
        · exact absurd h hjS
        · rw [hoj] at hoj'; cases hoj'
          have hlt : ¬ j < kA := by
            intro h
            have := hbef j h
            rw [this] at hjun
            cases hjun
          unfold MildK at hyj
          rw [if_neg hlt] at hyj
          have e1 := (execOp_put oj (fun cs b => hsel j oj cs b hoj) a (some dA) (.pointer (some ⟨b, 0, none⟩)) h1).symm
          have e2 := (wanted_put oj a (some dA) (.pointer (some ⟨b, 0, none⟩)) h1).symm
          refine ⟨v, ?_, ?_⟩
          · unfold MildV at *
            rw [e1, e2]
            exact hyj
          · rw [Array.setIfInBounds_comm _ _ hji, ← Act.put_comm a _ _ (x := some dA) (y := oj.dst) h2]
            exact Hj
      obtain ⟨v, hv, _⟩ := all _ (Nat.le_refl _)
      have hlt : ¬ j < kA := by
        intro h
        have := hbef j h
        rw [this] at hjun
        cases hjun
      refine .inr (.inr ⟨hji, hjS, oj, v, hoj, by unfold MildK; rw [if_neg hlt]; exact hv, ih _ _ ?_ hL hri fun b hbb => ?_⟩)
      · intro k hk
        by_cases hjk : j = k
        · subst hjk; exact absurd hk hlt
        · rw [getD_set_ne true hjk]; exact hbef k hk
      · obtain ⟨v', hv', hw'⟩ := all b hbb
        rw [hv.one hv']
        exact hw'

theorem takeS (hsel : ∀ (j : Nat) (o : Oper) cs b, ops[j]? = some o → o.op ≠ .select cs b) {oS : Oper} (hoS : ops[kS]? = some oS) {b : Nat} :
    ∀ (n : Nat) (L : Array Bool) (a : Act), Lone md ops kS oS L → kS ∈ Region.ready md ops L → StoreOk P ops w0 cs0 cs1 t kS a b →
      wpG P md ops Q w0 cs0 cs1 t dA kA kS n (L.setIfInBounds kS true) a (.full b) → wpG P md ops Q w0 cs0 cs1 t dA kA kS (n + 1) L a (.made b) := by
  intro n
  induction n with
  | zero =>
    intro L a _ hr hs H
    refine ⟨fun h => (by rw [h] at hr; cases hr), fun j hj => ?_⟩
    by_cases hji : j = kS
    · subst hji; exact .inr (.inl ⟨rfl, b, rfl, hs, H⟩)
    · have := ready_mono hj hji
      rw [H.1] at this
      cases this
  | succ m ih =>
    intro L a hfree hr hs H
    refine ⟨fun h => (by rw [h] at hr; cases hr), fun j hj => ?_⟩
    by_cases hji : j = kS
    · subst hji; exact .inr (.inl ⟨rfl, b, rfl, hs, H⟩)
    · have hjun := (mem_ready.1 hj).1
      have hri := ready_mono hr (Ne.symm hji)
      have hL := hfree.set j hjun
      rcases H.2 j (ready_mono hj hji) with ⟨_, h, _⟩ | ⟨h, _⟩ | ⟨n1, n2, oj, vj, hoj, hyj, Hj⟩
      · cases h
      · exact absurd h hji
      · obtain ⟨h1, h2, h3⟩ := Oper.apart_spec (hfree j oj hoj hji hjun (unlisted_after hr hoj hj))
        refine .inr (.inr ⟨n1, n2, oj, vj, hoj, hyj, ?_⟩)
        refine ih _ _ hL hri ((StoreOk.of_put hoS (fun cs b => hsel _ oS cs b hoS) h3).2 hs) ?_
        rw [Array.setIfInBounds_comm _ _ hji]
        exact Hj

/-- One walk in the order of the text. -/
def StepsG (P : Program) (ops : Array Oper) (Q : Exit → Act → World → Prop) (w0 : World) (cs0 cs1 : Array Value) (t : TypeId) (dA : Tmp) (kA kS : Nat) : List Oper → Nat → Act → Ph → Prop
  | [], _, a, ph => ∀ z, InvPh w0 cs0 cs1 t ph z → Q .normal a z
  | o :: rest, k, a, ph =>
    if k = kA then ph = .no ∧ ∀ b, w0.heap.size ≤ b → StepsG P ops Q w0 cs0 cs1 t dA kA kS rest (k + 1) (a.put (some dA) (.pointer (some ⟨b, 0, none⟩))) (.made b)
    else if k = kS then ∃ b, ph = .made b ∧ StoreOk P ops w0 cs0 cs1 t kS a b ∧ StepsG P ops Q w0 cs0 cs1 t dA kA kS rest (k + 1) a (.full b)
    else ∃ v, MildK P ops w0 kA k o v a ∧ StepsG P ops Q w0 cs0 cs1 t dA kA kS rest (k + 1) (a.put o.dst v) ph

theorem stepsG_wpG (hok : textOk ops = true) (hA : AllocOk P ops cs0 t dA kA) (hSA : ∀ oS, ops[kS]? = some oS → ∃ e ∈ oS.after, Region.binds .any e = true ∧ e.on = kA) :
    ∀ (rest : List Oper) (k : Nat) (a : Act) (ph : Ph), ops.toList.drop k = rest → k ≤ ops.size → StepsG P ops Q w0 cs0 cs1 t dA kA kS rest k a ph → wpG P .any ops Q w0 cs0 cs1 t dA kA kS (ops.size - k) (listedN ops.size k) a ph := by
  simp only [textOk, Bool.and_eq_true, List.all_eq_true, List.mem_range] at hok
  intro rest
  induction rest with
  | nil =>
    intro k a ph hd hk h
    have hl : ops.size ≤ k := by
      have := congrArg List.length hd
      simp at this
      omega
    have hz : ops.size - k = 0 := by omega
    rw [hz]
    refine ⟨?_, h⟩
    rw [List.eq_nil_iff_forall_not_mem]
    intro j hj
    obtain ⟨h0, o, ho, _⟩ := mem_ready.1 hj
    have hjl := (Array.getElem?_eq_some_iff.1 ho).1
    have hf : (listedN ops.size k).getD j true = true := by
      unfold listedN
      simp [hjl]
      omega
    rw [hf] at h0
    cases h0
  | cons o rest ih =>
    intro k a ph hd hk h
    have hkl : k < ops.size := by
      rcases Nat.lt_or_ge k ops.size with h1 | h1
      · exact h1
      · rw [List.drop_eq_nil_of_le (by simpa using h1)] at hd; cases hd
    have hget : ops[k]? = some o := by
      have := List.drop_eq_getElem_cons (l := ops.toList) (i := k) (by simpa using hkl)
      rw [hd] at this
      injection this with h1 h2
      rw [Array.getElem?_eq_getElem hkl, h1]
      simp
    have hrest : ops.toList.drop (k + 1) = rest := by
      have := List.drop_eq_getElem_cons (l := ops.toList) (i := k) (by simpa using hkl)
      rw [hd] at this
      injection this with h1 h2
      exact h2.symm
    obtain ⟨hr, hf⟩ := hok.2 k hkl
    have he : ops.size - k = (ops.size - (k + 1)) + 1 := by omega
    have hlone : Lone .any ops k o (listedN ops.size k) := Region.free_spec hget hf
    have hr' : k ∈ Region.ready .any ops (listedN ops.size k) := by simpa using hr
    rw [he]
    unfold StepsG at h
    split at h
    · rename_i hkA
      subst hkA
      obtain ⟨rfl, h⟩ := h
      refine takeA hA (Region.noSelect_spec hok.1) hget hSA _ _ a (fun j hj => ?_) hlone hr' fun b hb => ?_
      · unfold listedN; simp [show j < ops.size by omega]; omega
      rw [listedN_set]
      exact ih (k + 1) _ _ hrest (by omega) (h b hb)
    · split at h
      · rename_i hkA hkS
        subst hkS
        obtain ⟨b, rfl, hs, h⟩ := h
        refine takeS (Region.noSelect_spec hok.1) hget _ _ a hlone hr' hs ?_
        rw [listedN_set]
        exact ih (k + 1) _ _ hrest (by omega) h
      · rename_i hkA hkS
        obtain ⟨v, hm, h⟩ := h
        refine takeG hget hkA hkS (Region.noSelect_spec hok.1) hA _ _ a ph hlone hr' hm ?_
        rw [listedN_set]
        exact ih (k + 1) _ _ hrest (by omega) h

/-- THE LAW. -/
theorem wp_region_cell {id : Nat} {a : Act} {w : World} (kA kS : Nat) (dA : Tmp) (t : TypeId) (cs0 cs1 : Array Value) (hm : P.follows .mixedOrders = true) (hok : textOk ops = true)
    (hSA : (match ops[kS]? with | some oS => oS.after.any fun e => Region.binds .any e && (e.on == kA) | none => true) = true) (hA : AllocOk P ops cs0 t dA kA)
    (h : StepsG P ops Q w cs0 cs1 t dA kA kS ops.toList 0 a .no) : (Code.region id ops true).wp P Q a w := by
  refine wp_region_any hm ?_
  have hSA' : ∀ oS, ops[kS]? = some oS → ∃ e ∈ oS.after, Region.binds .any e = true ∧ e.on = kA := by
    intro oS hoS
    rw [hoS] at hSA
    obtain ⟨e, he, hb⟩ := Array.any_eq_true'.1 hSA
    simp only [Bool.and_eq_true, beq_iff_eq] at hb
    exact ⟨e, he, hb.1, hb.2⟩
  have h1 := stepsG_wpG (Q := Q) (w0 := w) (cs1 := cs1) hok hA hSA' ops.toList 0 a .no (by simp) (Nat.zero_le _) h
  have h2 : listedN ops.size 0 = Array.replicate ops.size false := by
    unfold listedN
    apply Array.ext
    · simp
    · intro i _ _; simp
  rw [Nat.sub_zero, h2] at h1
  exact wpG_any hA _ _ _ _ h1 _ ⟨rfl, rfl, rfl, Nat.le_refl _, fun _ _ => rfl⟩

theorem stepG_val {o : Oper} {rest : List Oper} {k : Nat} {a : Act} {ph : Ph} {v : Value} (hkA : (k == kA) = false) (hkS : (k == kS) = false) (hw : Region.wanted o (yielded ops a.tmps) = true)
    (hy : ∀ z, Below w0.heap.size w0 z → (execOp a.eval o).run P z = .ok (.value v) z) (hr : StepsG P ops Q w0 cs0 cs1 t dA kA kS rest (k + 1) (a.put o.dst v) ph) : StepsG P ops Q w0 cs0 cs1 t dA kA kS (o :: rest) k a ph := by
  unfold StepsG
  rw [if_neg (by simpa using hkA), if_neg (by simpa using hkS)]
  refine ⟨v, ?_, hr⟩
  have hv : MildV P ops w0 o v a := .inl ⟨hw, fun z hz => ⟨z, hy z hz, Below.refl _ _⟩⟩
  unfold MildK
  split
  · exact hv.mild
  · exact hv
theorem stepG_call {o : Oper} {rest : List Oper} {k : Nat} {a : Act} {ph : Ph} {v : Value} {f : FuncId} {args : Array Value} (hkA : decide (k < kA) = true) (hkS : (k == kS) = false) (hw : Region.wanted o (yielded ops a.tmps) = true)
    (hy : ∀ z, Below w0.heap.size w0 z → (execOp a.eval o).run P z = .ok (.enter f args) z) (hc : ∀ z, Below w0.heap.size w0 z → Calls P f args z fun e z' => e = .returned v ∧ Below z.heap.size z z')
    (hr : StepsG P ops Q w0 cs0 cs1 t dA kA kS rest (k + 1) (a.put o.dst v) ph) : StepsG P ops Q w0 cs0 cs1 t dA kA kS (o :: rest) k a ph := by
  have hk := of_decide_eq_true hkA
  unfold StepsG
  rw [if_neg (by omega), if_neg (by simpa using hkS)]
  refine ⟨v, ?_, hr⟩
  unfold MildK
  rw [if_pos hk]
  exact .inl ⟨hw, fun z hz => by rw [hy z hz]; exact ⟨rfl, hc z hz⟩⟩
theorem stepG_skip {o : Oper} {rest : List Oper} {k : Nat} {a : Act} {ph : Ph} (hkA : (k == kA) = false) (hkS : (k == kS) = false) (hw : Region.wanted o (yielded ops a.tmps) = false)
    (hr : StepsG P ops Q w0 cs0 cs1 t dA kA kS rest (k + 1) (a.put o.dst undef) ph) : StepsG P ops Q w0 cs0 cs1 t dA kA kS (o :: rest) k a ph := by
  unfold StepsG
  rw [if_neg (by simpa using hkA), if_neg (by simpa using hkS)]
  refine ⟨undef, ?_, hr⟩
  unfold MildK
  split
  · exact .inr ⟨hw, rfl⟩
  · exact .inr ⟨hw, rfl⟩
theorem stepG_new {o : Oper} {rest : List Oper} {k : Nat} {a : Act} (hkA : (k == kA) = true)
    (hr : ∀ b, w0.heap.size ≤ b → StepsG P ops Q w0 cs0 cs1 t dA kA kS rest (k + 1) (a.put (some dA) (.pointer (some ⟨b, 0, none⟩))) (.made b)) : StepsG P ops Q w0 cs0 cs1 t dA kA kS (o :: rest) k a .no := by
  unfold StepsG
  rw [if_pos (by simpa using hkA)]
  exact ⟨rfl, hr⟩
theorem stepG_store {o : Oper} {rest : List Oper} {k : Nat} {a : Act} {b : Nat} (hkA : (k == kA) = false) (hkS : (k == kS) = true) (ho : ops[kS]? = some o) (hd : o.dst = none) (hw : Region.wanted o (yielded ops a.tmps) = true)
    (hy : ∀ z, w0.heap.size ≤ b → Blk z b t cs0 → ∃ z', (execOp a.eval o).run P z = .ok .skip z' ∧ (∀ W, w0.heap.size ≤ b → Below w0.heap.size W z → Below w0.heap.size W z') ∧ Blk z' b t cs1)
    (hr : StepsG P ops Q w0 cs0 cs1 t dA kA kS rest (k + 1) a (.full b)) : StepsG P ops Q w0 cs0 cs1 t dA kA kS (o :: rest) k a (.made b) := by
  unfold StepsG
  rw [if_neg (by simpa using hkA), if_pos (by simpa using hkS)]
  refine ⟨b, rfl, ⟨o, ho, hd, hw, fun z hz => ?_⟩, hr⟩
  obtain ⟨z', he, hB, hblk⟩ := hy z hz.2.1 hz.2.2
  exact ⟨z', he, hB _ hz.2.1 hz.1, hz.2.1, hblk⟩
theorem stepG_end {a : Act} {ph : Ph} {k : Nat} (h : ∀ z, InvPh w0 cs0 cs1 t ph z → Q .normal a z) : StepsG P ops Q w0 cs0 cs1 t dA kA kS [] k a ph := h
end
end Go.Proofs.Ytamhngjhgdmgbaa
