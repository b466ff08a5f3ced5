/- A law for a statement whose order is open and which makes new variables: their blocks may come up at any time, their stores when they may; all else reads, or calls what only makes new memory. One walk in the order of the text serves every order. No function of the program is named here. -/
import Derived.Test.YtamhngjhgdmgbaaRegionCell
namespace Go.Proofs.Ytamhngjhgdmgbaa
open Go.RowKit

/-- What an operation of the statement is: any; the c-th new variable's block; its store. -/
inductive Role where
  | any
  | new (c : Nat)
  | put (c : Nat)
  deriving DecidableEq
/-- A new variable: its slot, its type, its cells as made, and as stored. -/
structure Cell2 where
  slot : Tmp
  type : TypeId
  cs0 : Array Value
  cs1 : Array Value
def Ph.blk : Ph → Option Nat
  | .no => none
  | .made b => some b
  | .full b => some b
def upd (ph : Nat → Ph) (c : Nat) (p : Ph) : Nat → Ph := fun x => if x = c then p else ph x
theorem upd_same (ph : Nat → Ph) (c : Nat) (p : Ph) : upd ph c p c = p := by simp [upd]
theorem upd_ne {ph : Nat → Ph} {c x : Nat} {p : Ph} (h : x ≠ c) : upd ph c p x = ph x := by simp [upd, h]
theorem upd_comm (ph : Nat → Ph) {c d : Nat} (p q : Ph) (h : c ≠ d) : upd (upd ph c p) d q = upd (upd ph d q) c p := by
  funext x; unfold upd
  by_cases h1 : x = c
  · have h2 : x ≠ d := fun e => h (h1.symm.trans e)
    simp [h1, h]
  · simp [h1]

section
variable {P : Program} {ops : Array Oper} {Q : Exit → Act → World → Prop} {md : Region.Mode} {w0 : World} {cl : Nat → Cell2} {role : Nat → Role} {k0 : Nat}

def PhOk (w0 : World) (C : Cell2) : Ph → World → Prop
  | .no, _ => True
  | .made b, z => w0.heap.size ≤ b ∧ Blk z b C.type C.cs0
  | .full b, z => w0.heap.size ≤ b ∧ Blk z b C.type C.cs1
structure InvC (w0 : World) (cl : Nat → Cell2) (ph : Nat → Ph) (z : World) : Prop where
  below : Below w0.heap.size w0 z
  each : ∀ c, PhOk w0 (cl c) (ph c) z
  inj : ∀ c c' b, (ph c).blk = some b → (ph c').blk = some b → c = c'
theorem PhOk.grow {C : Cell2} {p : Ph} {z z' : World} (h : PhOk w0 C p z) (hb : Below z.heap.size z z') : PhOk w0 C p z' := by
  cases p with
  | no => exact True.intro
  | made b => exact ⟨h.1, h.2.grow hb⟩
  | full b => exact ⟨h.1, h.2.grow hb⟩
theorem PhOk.lt {C : Cell2} {p : Ph} {z : World} {b : Nat} (h : PhOk w0 C p z) (hb : p.blk = some b) : b < z.heap.size := by
  cases p with
  | no => cases hb
  | made b' => cases hb; exact h.2.lt
  | full b' => cases hb; exact h.2.lt
theorem InvC.grow {ph : Nat → Ph} {z z' : World} (h : InvC w0 cl ph z) (hb : Below z.heap.size z z') : InvC w0 cl ph z' :=
  ⟨h.below.trans (hb.mono h.below.size), fun c => (h.each c).grow hb, h.inj⟩
/-- No new variable lies there. -/
def Apart (ph : Nat → Ph) (b : Nat) : Prop := ∀ c, (ph c).blk ≠ some b

def StoreC (P : Program) (ops : Array Oper) (w0 : World) (C : Cell2) (k : Nat) (a : Act) (b : Nat) : Prop :=
  ∃ o, ops[k]? = some o ∧ o.dst = none ∧ Region.wanted o (yielded ops a.tmps) = true ∧
    ∀ z, w0.heap.size ≤ b → Blk z b C.type C.cs0 → ∃ z', (execOp a.eval o).run P z = .ok .skip z' ∧ (∀ W, Below w0.heap.size W z → Below w0.heap.size W z') ∧ Blk z' b C.type C.cs1 ∧ ∀ b' t cs, b' ≠ b → Blk z b' t cs → Blk z' b' t cs
def AllocC (P : Program) (ops : Array Oper) (C : Cell2) (k : Nat) : Prop :=
  ∃ o, ops[k]? = some o ∧ o.dst = some C.slot ∧ o.guard = none ∧ ∀ (a : Act) z, (execOp a.eval o).run P z = .ok (.value (.pointer (some ⟨z.heap.size, 0, none⟩))) (z.alloc (.cells C.cs0 C.type))

/-- Whatever comes up next does as it should, to the end. -/
def wpC (P : Program) (md : Region.Mode) (ops : Array Oper) (Q : Exit → Act → World → Prop) (w0 : World) (cl : Nat → Cell2) (role : Nat → Role) (k0 : Nat) : Nat → Array Bool → Act → (Nat → Ph) → Prop
  | 0, L, a, ph => Region.ready md ops L = [] ∧ ∀ z, InvC w0 cl ph z → Q .normal a z
  | n + 1, L, a, ph => Region.ready md ops L ≠ [] ∧ ∀ i ∈ Region.ready md ops L,
      (∃ c, role i = .new c ∧ ph c = .no ∧ ∀ b, w0.heap.size ≤ b → Apart ph b → wpC P md ops Q w0 cl role k0 n (L.setIfInBounds i true) (a.put (some (cl c).slot) (.pointer (some ⟨b, 0, none⟩))) (upd ph c (.made b))) ∨
      (∃ c b, role i = .put c ∧ ph c = .made b ∧ StoreC P ops w0 (cl c) i a b ∧ wpC P md ops Q w0 cl role k0 n (L.setIfInBounds i true) a (upd ph c (.full b))) ∨
      (role i = .any ∧ ∃ o v, ops[i]? = some o ∧ MildK P ops w0 k0 i o v a ∧ wpC P md ops Q w0 cl role k0 n (L.setIfInBounds i true) (a.put o.dst v) ph)

theorem wpC_any (hA : ∀ i c, role i = .new c → AllocC P ops (cl c) i) : ∀ (n : Nat) (L : Array Bool) (a : Act) (ph : Nat → Ph), wpC P md ops Q w0 cl role k0 n L a ph → ∀ z, InvC w0 cl ph z → wpAny P md ops Q n L a z := by
  intro n
  induction n with
  | zero => intro L a ph h z hz; exact ⟨h.1, h.2 z hz⟩
  | succ n ih =>
    intro L a ph h z hz
    refine ⟨fun h0 => absurd h0 h.1, fun i hi => ?_⟩
    rcases h.2 i hi with ⟨c, hro, hph, hr⟩ | ⟨c, b, hro, hph, ⟨o, ho, hd, hw, hrun⟩, hr⟩ | ⟨_, o, v, ho, hm, hr⟩
    · obtain ⟨o, ho, hd, hg, hrun⟩ := hA i c hro
      unfold wpOp
      simp only [ho]
      have hw : Region.wanted o (yielded ops a.tmps) = true := by unfold Region.wanted; rw [hg]
      simp only [hw, if_true]
      refine .inl ?_
      unfold Oper.wp
      rw [hrun]
      simp only [Oper.upon, hd]
      have hap : Apart ph z.heap.size := fun c' hc' => Nat.lt_irrefl _ ((hz.each c').lt hc')
      refine ih _ _ _ (hr z.heap.size hz.below.size hap) _ ?_
      have hgr : Below z.heap.size z (z.alloc (.cells (cl c).cs0 (cl c).type)) := (Below.refl _ _).alloc (Nat.le_refl _) _
      refine ⟨hz.below.trans (hgr.mono hz.below.size), fun c' => ?_, fun c1 c2 b h1 h2 => ?_⟩
      · by_cases h' : c' = c
        · subst h'; rw [upd_same]; exact ⟨hz.below.size, Blk.new z _ _⟩
        · rw [upd_ne h']; exact (hz.each c').grow hgr
      · by_cases e1 : c1 = c <;> by_cases e2 : c2 = c
        · rw [e1, e2]
        · subst e1; rw [upd_same] at h1; rw [upd_ne e2] at h2; cases h1; exact absurd h2 (hap c2)
        · subst e2; rw [upd_same] at h2; rw [upd_ne e1] at h1; cases h2; exact absurd h1 (hap c1)
        · rw [upd_ne e1] at h1; rw [upd_ne e2] at h2; exact hz.inj c1 c2 b h1 h2
    · have hc := hz.each c
      rw [hph] at hc
      obtain ⟨z', he, hW, hblk, hoth⟩ := hrun z hc.1 hc.2
      unfold wpOp
      simp only [ho, hw, if_true]
      refine .inl ?_
      unfold Oper.wp
      rw [he]
      simp only [Oper.upon, hd]
      refine ih _ _ _ hr z' ⟨hW _ hz.below, fun c' => ?_, fun c1 c2 x h1 h2 => ?_⟩
      · by_cases h' : c' = c
        · subst h'; rw [upd_same]; exact ⟨hc.1, hblk⟩
        · rw [upd_ne h']
          have hx := hz.each c'
          have hne : ∀ x, (ph c').blk = some x → x ≠ b := fun x hx' e => h' (hz.inj c' c b (by rw [hx', e]) (by rw [hph]; rfl))
          cases hp : ph c' with
          | no => exact True.intro
          | made x => rw [hp] at hx; exact ⟨hx.1, hoth _ _ _ (hne x (by rw [hp]; rfl)) hx.2⟩
          | full x => rw [hp] at hx; exact ⟨hx.1, hoth _ _ _ (hne x (by rw [hp]; rfl)) hx.2⟩
      · have back : ∀ c' x, (upd ph c (.full b) c').blk = some x → (ph c').blk = some x := by
          intro c' x h
          by_cases h' : c' = c
          · subst h'; rw [upd_same] at h; rw [hph]; exact h
          · rw [upd_ne h'] at h; exact h
        exact hz.inj c1 c2 x (back c1 x h1) (back c2 x h2)
    · unfold wpOp
      simp only [ho]
      rcases hm.mild with ⟨hw, hv⟩ | ⟨hw, hv⟩
      · simp only [hw, if_true]
        refine .inl ?_
        have hl := hv z hz.below
        unfold Oper.wp
        generalize (execOp a.eval o).run P z = r at hl
        cases r with
        | ok nx z1 =>
          cases nx <;> simp only [Grows] at hl
          case value u => obtain ⟨rfl, hg⟩ := hl; exact ih _ _ _ hr _ (hz.grow hg)
          case enter f args =>
            obtain ⟨rfl, hl⟩ := hl
            simp only [Oper.upon]
            refine Calls.mono hl fun e z' he => ?_
            obtain ⟨rfl, hg⟩ := he
            exact ih _ _ _ hr _ (hz.grow hg)
        | halt x z1 => simp only [Grows] at hl
      · simp only [hw, Bool.false_eq_true, if_false]
        rw [hv] at hr
        exact ih _ _ _ hr _ hz

theorem StoreC.of_put {C : Cell2} {k : Nat} {a : Act} {b : Nat} {dst : Option Tmp} {v : Value} {oS : Oper} (hoS : ops[k]? = some oS) (hsel : ∀ cs b, oS.op ≠ .select cs b) (h : ∀ d, dst = some d → d ∉ oS.looksAt ops) :
    StoreC P ops w0 C k (a.put dst v) b ↔ StoreC P ops w0 C k a b := by
  unfold StoreC
  constructor
  · rintro ⟨o, ho, hd, hw, hr⟩
    rw [hoS] at ho; cases ho
    rw [wanted_put oS a dst v h] at hw
    rw [execOp_put oS hsel a dst v h] at hr
    exact ⟨oS, hoS, hd, hw, hr⟩
  · rintro ⟨o, ho, hd, hw, hr⟩
    rw [hoS] at ho; cases ho
    refine ⟨oS, hoS, hd, ?_, ?_⟩
    · rw [wanted_put oS a dst v h]; exact hw
    · rw [execOp_put oS hsel a dst v h]; exact hr

theorem takeCG {i : Nat} {oi : Oper} {v : Value} (hi : ops[i]? = some oi) (hri : role i = .any) (hsel : ∀ (j : Nat) (o : Oper) cs b, ops[j]? = some o → o.op ≠ .select cs b) (hA : ∀ i c, role i = .new c → AllocC P ops (cl c) i) :
    ∀ (n : Nat) (L : Array Bool) (a : Act) (ph : Nat → Ph), Lone md ops i oi L → i ∈ Region.ready md ops L → MildK P ops w0 k0 i oi v a →
      wpC P md ops Q w0 cl role k0 n (L.setIfInBounds i true) (a.put oi.dst v) ph → wpC P md ops Q w0 cl role k0 (n + 1) L a ph := by
  intro n
  induction n with
  | zero =>
    intro L a ph _ hr hy H
    refine ⟨fun h => (by rw [h] at hr; cases hr), fun j hj => ?_⟩
    by_cases hji : j = i
    · subst hji; exact .inr (.inr ⟨hri, oi, v, hi, hy, H⟩)
    · have := ready_mono hj hji
      rw [H.1] at this
      cases this
  | succ m ih =>
    intro L a ph hfree hr hy H
    refine ⟨fun h => (by rw [h] at hr; cases hr), fun j hj => ?_⟩
    by_cases hji : j = i
    · subst hji; exact .inr (.inr ⟨hri, oi, v, hi, hy, H⟩)
    · have hjun := (mem_ready.1 hj).1
      have hrr := ready_mono hr (Ne.symm hji)
      have hL := hfree.set j hjun
      rcases H.2 j (ready_mono hj hji) with ⟨c, hro, hph, hb⟩ | ⟨c, b, hro, hph, hs, hb⟩ | ⟨hro, oj, vj, hoj, hyj, Hj⟩
      · obtain ⟨oA, hoA, hdA, hgA, hrA⟩ := hA j c hro
        obtain ⟨h1, h2, h3⟩ := Oper.apart_spec (hfree j oA hoA hji hjun (unlisted_after hr hoA hj))
        rw [hdA] at h2 h3
        refine .inl ⟨c, hro, hph, fun b hbb hap => ?_⟩
        refine ih _ _ _ hL hrr (hy.of_same (execOp_put oi (fun cs b => hsel i oi cs b hi) a (some (cl c).slot) _ h3) (wanted_put oi a (some (cl c).slot) _ h3)) ?_
        rw [Array.setIfInBounds_comm _ _ hji, ← Act.put_comm a _ _ (x := oi.dst) (y := some (cl c).slot) (fun d hd he => h2 d hd he)]
        exact hb b hbb hap
      · obtain ⟨oS, hoS, hdS, hwS, hrS⟩ := hs
        obtain ⟨h1, h2, h3⟩ := Oper.apart_spec (hfree j oS hoS hji hjun (unlisted_after hr hoS hj))
        refine .inr (.inl ⟨c, b, hro, hph, (StoreC.of_put hoS (fun cs b => hsel _ oS cs b hoS) h1).1 ⟨oS, hoS, hdS, hwS, hrS⟩, ?_⟩)
        refine ih _ _ _ hL hrr hy ?_
        rw [Array.setIfInBounds_comm _ _ hji]
        exact hb
      · obtain ⟨h1, h2, h3⟩ := Oper.apart_spec (hfree j oj hoj hji hjun (unlisted_after hr hoj hj))
        refine .inr (.inr ⟨hro, oj, vj, hoj, hyj.of_same (execOp_put oj (fun cs b => hsel j oj cs b hoj) a oi.dst _ h1).symm (wanted_put oj a oi.dst _ h1).symm, ?_⟩)
        refine ih _ _ _ hL hrr (hy.of_same (execOp_put oi (fun cs b => hsel i oi cs b hi) a oj.dst _ h3) (wanted_put oi a oj.dst _ h3)) ?_
        rw [Array.setIfInBounds_comm _ _ hji, ← Act.put_comm a _ _ h2]
        exact Hj

/-- Only blocks below a bound are new variables. -/
def Bd (ph : Nat → Ph) : Prop := ∃ B, ∀ c b, (ph c).blk = some b → b < B
theorem Bd.upd_ {ph : Nat → Ph} (h : Bd ph) (c : Nat) (p : Ph) : Bd (upd ph c p) := by
  obtain ⟨B, h⟩ := h
  refine ⟨B + p.blk.getD 0 + 1, fun c' b hb => ?_⟩
  by_cases h' : c' = c
  · subst h'; rw [upd_same] at hb; rw [hb]; simp; omega
  · rw [upd_ne h'] at hb; have := h c' b hb; omega
theorem Bd.fresh {ph : Nat → Ph} (h : Bd ph) (n : Nat) : ∃ b, n ≤ b ∧ Apart ph b := by
  obtain ⟨B, h⟩ := h
  refine ⟨n + B, by omega, fun c hc => ?_⟩
  have := h c _ hc
  omega
theorem Apart.upd_ {ph : Nat → Ph} {c : Nat} {p : Ph} {b : Nat} (h : Apart ph b) (hp : p.blk ≠ some b) : Apart (upd ph c p) b := by
  intro c' hc
  by_cases h' : c' = c
  · subst h'; rw [upd_same] at hc; exact hp hc
  · rw [upd_ne h'] at hc; exact h c' hc
theorem Apart.of_upd {ph : Nat → Ph} {c : Nat} {p : Ph} {b : Nat} (h : Apart (upd ph c p) b) (hp : (ph c).blk ≠ some b) : Apart ph b := by
  intro c' hc
  by_cases h' : c' = c
  · subst h'; exact hp hc
  · refine h c' ?_; rw [upd_ne h']; exact hc

theorem takeCA {kA c : Nat} {oA : Oper} (hoA : ops[kA]? = some oA) (hrA : role kA = .new c) (hsel : ∀ (j : Nat) (o : Oper) cs b, ops[j]? = some o → o.op ≠ .select cs b) (hA : ∀ i c, role i = .new c → AllocC P ops (cl c) i)
    (hS : ∀ i c', role i = .put c' → ∀ o, ops[i]? = some o → ∀ j, role j = .new c' → ∃ e ∈ o.after, Region.binds md e = true ∧ e.on = j) :
    ∀ (n : Nat) (L : Array Bool) (a : Act) (ph : Nat → Ph), (∀ k, k < k0 → L.getD k true = true) → Bd ph → ph c = .no → Lone md ops kA oA L → kA ∈ Region.ready md ops L →
      (∀ b, w0.heap.size ≤ b → Apart ph b → wpC P md ops Q w0 cl role k0 n (L.setIfInBounds kA true) (a.put (some (cl c).slot) (.pointer (some ⟨b, 0, none⟩))) (upd ph c (.made b))) → wpC P md ops Q w0 cl role k0 (n + 1) L a ph := by
  obtain ⟨oA', hoA', hdA, hgA, hrunA⟩ := hA kA c hrA
  rw [hoA] at hoA'; cases hoA'
  intro n
  induction n with
  | zero =>
    intro L a ph _ hbd hph _ hr H
    obtain ⟨b0, hb0, hap0⟩ := hbd.fresh w0.heap.size
    refine ⟨fun h => (by rw [h] at hr; cases hr), fun j hj => ?_⟩
    by_cases hji : j = kA
    · subst hji; exact .inl ⟨c, hrA, hph, H⟩
    · have := ready_mono hj hji
      rw [(H b0 hb0 hap0).1] at this
      cases this
  | succ m ih =>
    intro L a ph hbef hbd hph hfree hr H
    obtain ⟨b0, hb0, hap0⟩ := hbd.fresh w0.heap.size
    refine ⟨fun h => (by rw [h] at hr; cases hr), fun j hj => ?_⟩
    by_cases hji : j = kA
    · subst hji; exact .inl ⟨c, hrA, hph, H⟩
    · have hjun := (mem_ready.1 hj).1
      have hri := ready_mono hr (Ne.symm hji)
      have hL := hfree.set j hjun
      obtain ⟨_, oj, hoj, _⟩ := mem_ready.1 hj
      have hafter := unlisted_after hr hoj hj
      obtain ⟨h1, h2, h3⟩ := Oper.apart_spec (hfree j oj hoj hji hjun hafter)
      rw [hdA] at h1 h2
      have hsj := fun cs b => hsel j oj cs b hoj
      have hbef' : ∀ k, k < k0 → (L.setIfInBounds j true).getD k true = true := by
        intro k hk
        by_cases hjk : j = k
        · subst hjk; have := hbef j hk; rw [this] at hjun; cases hjun
        · rw [getD_set_ne true hjk]; exact hbef k hk
      rcases (H b0 hb0 hap0).2 j (ready_mono hj hji) with ⟨c', hro, hph', _⟩ | ⟨c', b', hro, hph', hs, _⟩ | ⟨hro, oj', v, hoj', hyj, _⟩
      · have hcc : c' ≠ c := fun e => by rw [e, upd_same] at hph'; cases hph'
        rw [upd_ne hcc] at hph'
        obtain ⟨oj', hoj', hdj, _, _⟩ := hA j c' hro
        rw [hoj] at hoj'; cases hoj'
        refine .inl ⟨c', hro, hph', fun b' hb' hap' => ?_⟩
        refine ih _ _ _ hbef' (hbd.upd_ _ _) (by rw [upd_ne (Ne.symm hcc)]; exact hph) hL hri fun b hb hap => ?_
        have hapb : Apart ph b := hap.of_upd (by rw [hph']; simp [Ph.blk])
        have hne : b' ≠ b := fun e => hap c' (by rw [upd_same, e]; rfl)
        rcases (H b hb hapb).2 j (ready_mono hj hji) with ⟨c2, hro2, hph2, hgo⟩ | ⟨c2, _, hro2, _⟩ | ⟨hro2, _⟩
        · rw [hro] at hro2; injection hro2 with e; subst e
          have := hgo b' hb' (hap'.upd_ (by simp [Ph.blk]; exact fun e => hne e.symm))
          rw [Array.setIfInBounds_comm _ _ hji, ← Act.put_comm a _ _ (x := some (cl c).slot) (y := some (cl c').slot) (by rw [← hdj]; exact h2), ← upd_comm ph _ _ (Ne.symm hcc)]
          exact this
        · rw [hro] at hro2; cases hro2
        · rw [hro] at hro2; cases hro2
      · have hcc : c' ≠ c := by
          rintro rfl
          obtain ⟨e, he, hb, hon⟩ := hS j c' hro oj hoj kA hrA
          exact hafter e he hb hon
        rw [upd_ne hcc] at hph'
        refine .inr (.inl ⟨c', b', hro, hph', (StoreC.of_put hoj hsj h1).1 hs, ?_⟩)
        refine ih _ _ _ hbef' (hbd.upd_ _ _) (by rw [upd_ne (Ne.symm hcc)]; exact hph) hL hri fun b hb hap => ?_
        have hapb : Apart ph b := fun c2 hc2 => by
          by_cases h' : c2 = c'
          · subst h'; refine hap c2 ?_; rw [upd_same]; rw [hph'] at hc2; exact hc2
          · refine hap c2 ?_; rw [upd_ne h']; exact hc2
        rcases (H b hb hapb).2 j (ready_mono hj hji) with ⟨c2, hro2, _⟩ | ⟨c2, b2, hro2, hph2, _, hgo⟩ | ⟨hro2, _⟩
        · rw [hro] at hro2; cases hro2
        · rw [hro] at hro2; injection hro2 with e; subst e
          rw [upd_ne hcc, hph'] at hph2; injection hph2 with e; subst e
          rw [Array.setIfInBounds_comm _ _ hji, ← upd_comm ph _ _ (Ne.symm hcc)]
          exact hgo
        · rw [hro] at hro2; cases hro2
      · rw [hoj] at hoj'; cases hoj'
        have hlt : ¬ j < k0 := by
          intro h
          have := hbef j h
          rw [this] at hjun
          cases hjun
        have all : ∀ b, w0.heap.size ≤ b → Apart ph b → ∃ v, MildV P ops w0 oj v a ∧ wpC P md ops Q w0 cl role k0 m ((L.setIfInBounds j true).setIfInBounds kA true) ((a.put oj.dst v).put (some (cl c).slot) (.pointer (some ⟨b, 0, none⟩))) (upd ph c (.made b)) := by
          intro b hb hap
          rcases (H b hb hap).2 j (ready_mono hj hji) with ⟨_, hro2, _⟩ | ⟨_, _, hro2, _⟩ | ⟨_, oj', v, hoj', hyj, hgo⟩
          · rw [hro] at hro2; cases hro2
          · rw [hro] at hro2; cases hro2
          · rw [hoj] at hoj'; cases hoj'
            unfold MildK at hyj
            rw [if_neg hlt] at hyj
            refine ⟨v, ?_, ?_⟩
            · unfold MildV at *
              rw [(execOp_put oj hsj a (some (cl c).slot) (.pointer (some ⟨b, 0, none⟩)) h1).symm, (wanted_put oj a (some (cl c).slot) (.pointer (some ⟨b, 0, none⟩)) h1).symm]
              exact hyj
            · rw [Array.setIfInBounds_comm _ _ hji, ← Act.put_comm a _ _ (x := some (cl c).slot) (y := oj.dst) h2]
              exact hgo
        obtain ⟨v, hv, _⟩ := all b0 hb0 hap0
        refine .inr (.inr ⟨hro, oj, v, hoj, by unfold MildK; rw [if_neg hlt]; exact hv, ih _ _ _ hbef' hbd hph hL hri fun b hb hap => ?_⟩)
        obtain ⟨v', hv', hw'⟩ := all b hb hap
        rw [hv.one hv']
        exact hw'

theorem takeCS {kS c b : Nat} {oS : Oper} (hoS : ops[kS]? = some oS) (hrS : role kS = .put c) (hsel : ∀ (j : Nat) (o : Oper) cs b, ops[j]? = some o → o.op ≠ .select cs b) (hA : ∀ i c, role i = .new c → AllocC P ops (cl c) i) :
    ∀ (n : Nat) (L : Array Bool) (a : Act) (ph : Nat → Ph), ph c = .made b → Lone md ops kS oS L → kS ∈ Region.ready md ops L → StoreC P ops w0 (cl c) kS a b →
      wpC P md ops Q w0 cl role k0 n (L.setIfInBounds kS true) a (upd ph c (.full b)) → wpC P md ops Q w0 cl role k0 (n + 1) L a ph := by
  intro n
  induction n with
  | zero =>
    intro L a ph hph _ hr hs H
    refine ⟨fun h => (by rw [h] at hr; cases hr), fun j hj => ?_⟩
    by_cases hji : j = kS
    · subst hji; exact .inr (.inl ⟨c, b, hrS, hph, hs, H⟩)
    · have := ready_mono hj hji
      rw [H.1] at this
      cases this
  | succ m ih =>
    intro L a ph hph hfree hr hs H
    refine ⟨fun h => (by rw [h] at hr; cases hr), fun j hj => ?_⟩
    by_cases hji : j = kS
    · subst hji; exact .inr (.inl ⟨c, b, hrS, hph, hs, H⟩)
    · have hjun := (mem_ready.1 hj).1
      have hri := ready_mono hr (Ne.symm hji)
      have hL := hfree.set j hjun
      have hsS := fun cs b => hsel kS oS cs b hoS
      rcases H.2 j (ready_mono hj hji) with ⟨c', hro, hph', hgo⟩ | ⟨c', b', hro, hph', hs', hgo⟩ | ⟨hro, oj, v, hoj, hyj, hgo⟩
      · have hcc : c' ≠ c := fun e => by rw [e, upd_same] at hph'; cases hph'
        rw [upd_ne hcc] at hph'
        obtain ⟨oj, hoj, hdj, _, _⟩ := hA j c' hro
        obtain ⟨h1, h2, h3⟩ := Oper.apart_spec (hfree j oj hoj hji hjun (unlisted_after hr hoj hj))
        rw [hdj] at h3
        refine .inl ⟨c', hro, hph', fun b' hb' hap' => ?_⟩
        refine ih _ _ _ (by rw [upd_ne (Ne.symm hcc)]; exact hph) hL hri ((StoreC.of_put hoS hsS h3).2 hs) ?_
        have hap2 : Apart (upd ph c (.full b)) b' := hap'.upd_ (fun h => hap' c (by rw [hph]; exact h))
        rw [Array.setIfInBounds_comm _ _ hji, ← upd_comm ph _ _ (Ne.symm hcc)]
        exact hgo b' hb' hap2
      · have hcc : c' ≠ c := fun e => by rw [e, upd_same] at hph'; cases hph'
        rw [upd_ne hcc] at hph'
        refine .inr (.inl ⟨c', b', hro, hph', hs', ?_⟩)
        refine ih _ _ _ (by rw [upd_ne (Ne.symm hcc)]; exact hph) hL hri hs ?_
        rw [Array.setIfInBounds_comm _ _ hji, ← upd_comm ph _ _ (Ne.symm hcc)]
        exact hgo
      · obtain ⟨h1, h2, h3⟩ := Oper.apart_spec (hfree j oj hoj hji hjun (unlisted_after hr hoj hj))
        refine .inr (.inr ⟨hro, oj, v, hoj, hyj, ?_⟩)
        refine ih _ _ _ hph hL hri ((StoreC.of_put hoS hsS h3).2 hs) ?_
        rw [Array.setIfInBounds_comm _ _ hji]
        exact hgo

/-- One walk in the order of the text. -/
def StepsC (P : Program) (ops : Array Oper) (Q : Exit → Act → World → Prop) (w0 : World) (cl : Nat → Cell2) (role : Nat → Role) (k0 : Nat) : List Oper → Nat → Act → (Nat → Ph) → Prop
  | [], _, a, ph => ∀ z, InvC w0 cl ph z → Q .normal a z
  | o :: rest, k, a, ph =>
    (∃ c, role k = .new c ∧ ph c = .no ∧ ∀ b, w0.heap.size ≤ b → Apart ph b → StepsC P ops Q w0 cl role k0 rest (k + 1) (a.put (some (cl c).slot) (.pointer (some ⟨b, 0, none⟩))) (upd ph c (.made b))) ∨
    (∃ c b, role k = .put c ∧ ph c = .made b ∧ StoreC P ops w0 (cl c) k a b ∧ StepsC P ops Q w0 cl role k0 rest (k + 1) a (upd ph c (.full b))) ∨
    (role k = .any ∧ ∃ v, MildK P ops w0 k0 k o v a ∧ StepsC P ops Q w0 cl role k0 rest (k + 1) (a.put o.dst v) ph)

theorem stepsC_wpC (hok : textOk ops = true) (hk0 : ∀ i c, role i = .new c → k0 ≤ i) (hA : ∀ i c, role i = .new c → AllocC P ops (cl c) i)
    (hS : ∀ i c', role i = .put c' → ∀ o, ops[i]? = some o → ∀ j, role j = .new c' → ∃ e ∈ o.after, Region.binds .any e = true ∧ e.on = j) :
    ∀ (rest : List Oper) (k : Nat) (a : Act) (ph : Nat → Ph), ops.toList.drop k = rest → k ≤ ops.size → Bd ph → StepsC P ops Q w0 cl role k0 rest k a ph → wpC P .any ops Q w0 cl role k0 (ops.size - k) (listedN ops.size k) a ph := by
  simp only [textOk, Bool.and_eq_true, List.all_eq_true, List.mem_range] at hok
  intro rest
  induction rest with
  | nil =>
    intro k a ph hd hk _ h
    have hl : ops.size ≤ k := by
      have := congrArg List.length hd
      simp at this
      omega
    have hz : ops.size - k = 0 := by omega
    rw [hz]
    refine ⟨?_, h⟩
    rw [List.eq_nil_iff_forall_not_mem]
    intro j hj
    obtain ⟨h0, o, ho, _⟩ := mem_ready.1 hj
    have hjl := (Array.getElem?_eq_some_iff.1 ho).1
    have hf : (listedN ops.size k).getD j true = true := by
      unfold listedN
      simp [hjl]
      omega
    rw [hf] at h0
    cases h0
  | cons o rest ih =>
    intro k a ph hd hk hbd h
    have hkl : k < ops.size := by
      rcases Nat.lt_or_ge k ops.size with h1 | h1
      · exact h1
      · rw [List.drop_eq_nil_of_le (by simpa using h1)] at hd; cases hd
    have hget : ops[k]? = some o := by
      have := List.drop_eq_getElem_cons (l := ops.toList) (i := k) (by simpa using hkl)
      rw [hd] at this
      injection this with h1 h2
      rw [Array.getElem?_eq_getElem hkl, h1]
      simp
    have hrest : ops.toList.drop (k + 1) = rest := by
      have := List.drop_eq_getElem_cons (l := ops.toList) (i := k) (by simpa using hkl)
      rw [hd] at this
      injection this with h1 h2
      exact h2.symm
    obtain ⟨hr, hf⟩ := hok.2 k hkl
    have he : ops.size - k = (ops.size - (k + 1)) + 1 := by omega
    have hlone : Lone .any ops k o (listedN ops.size k) := Region.free_spec hget hf
    have hr' : k ∈ Region.ready .any ops (listedN ops.size k) := by simpa using hr
    rw [he]
    rcases h with ⟨c, hro, hph, h⟩ | ⟨c, b, hro, hph, hs, h⟩ | ⟨hro, v, hm, h⟩
    · refine takeCA hget hro (Region.noSelect_spec hok.1) hA hS _ _ a ph (fun j hj => ?_) hbd hph hlone hr' fun b hb hap => ?_
      · have := hk0 k c hro
        unfold listedN; simp [show j < ops.size by omega]; omega
      rw [listedN_set]
      exact ih (k + 1) _ _ hrest (by omega) (hbd.upd_ _ _) (h b hb hap)
    · refine takeCS hget hro (Region.noSelect_spec hok.1) hA _ _ a ph hph hlone hr' hs ?_
      rw [listedN_set]
      exact ih (k + 1) _ _ hrest (by omega) (hbd.upd_ _ _) h
    · refine takeCG hget hro (Region.noSelect_spec hok.1) hA _ _ a ph hlone hr' hm ?_
      rw [listedN_set]
      exact ih (k + 1) _ _ hrest (by omega) hbd h

/-- The roles, by the places of each new variable's block and store. -/
def roleGo : List (Nat × Nat) → Nat → Nat → Role
  | [], _, _ => .any
  | (ka, ks) :: r, c, i => if i = ka then .new c else if i = ks then .put c else roleGo r (c + 1) i
def AllAlloc (P : Program) (ops : Array Oper) (cl : Nat → Cell2) : List (Nat × Nat) → Nat → Prop
  | [], _ => True
  | (ka, _) :: r, c => AllocC P ops (cl c) ka ∧ AllAlloc P ops cl r (c + 1)
theorem roleGo_new : ∀ {l : List (Nat × Nat)} {c0 i c : Nat}, roleGo l c0 i = .new c → c0 ≤ c ∧ ∃ ks, l[c - c0]? = some (i, ks)
  | [], _, _, _, h => by cases h
  | (ka, ks) :: r, c0, i, c, h => by
    unfold roleGo at h
    split at h
    · rename_i e; injection h with h; subst h; subst e; exact ⟨Nat.le_refl _, ks, by simp⟩
    · split at h
      · cases h
      · obtain ⟨h1, ks', h2⟩ := roleGo_new h
        refine ⟨by omega, ks', ?_⟩
        rw [show c - c0 = (c - (c0 + 1)) + 1 from by omega]
        simpa using h2
theorem roleGo_put : ∀ {l : List (Nat × Nat)} {c0 i c : Nat}, roleGo l c0 i = .put c → c0 ≤ c ∧ ∃ ka, l[c - c0]? = some (ka, i)
  | [], _, _, _, h => by cases h
  | (ka, ks) :: r, c0, i, c, h => by
    unfold roleGo at h
    split at h
    · cases h
    · split at h
      · rename_i e; injection h with h; subst h; subst e; exact ⟨Nat.le_refl _, ka, by simp⟩
      · obtain ⟨h1, ka', h2⟩ := roleGo_put h
        refine ⟨by omega, ka', ?_⟩
        rw [show c - c0 = (c - (c0 + 1)) + 1 from by omega]
        simpa using h2
theorem AllAlloc.get : ∀ {l : List (Nat × Nat)} {c0 : Nat}, AllAlloc P ops cl l c0 → ∀ i c, roleGo l c0 i = .new c → AllocC P ops (cl c) i
  | [], _, _, _, _, h => by cases h
  | (ka, ks) :: r, c0, ⟨h1, h2⟩, i, c, h => by
    unfold roleGo at h
    split at h
    · rename_i e; injection h with h; subst h; subst e; exact h1
    · split at h
      · cases h
      · exact AllAlloc.get h2 i c h
def rolesOk (ops : Array Oper) (l : List (Nat × Nat)) (k0 : Nat) : Bool :=
  l.all fun p => decide (k0 ≤ p.1) && (match ops[p.2]? with | some oS => oS.after.any fun e => Region.binds .any e && (e.on == p.1) | none => true)

/-- THE LAW. -/
theorem wp_region_cells {id : Nat} {a : Act} {w : World} (l : List (Nat × Nat)) (k0 : Nat) (cl : Nat → Cell2) (hm : P.follows .mixedOrders = true) (hok : textOk ops = true) (hl : rolesOk ops l k0 = true) (hA : AllAlloc P ops cl l 0)
    (h : StepsC P ops Q w cl (roleGo l 0) k0 ops.toList 0 a (fun _ => .no)) : (Code.region id ops true).wp P Q a w := by
  refine wp_region_any hm ?_
  simp only [rolesOk, List.all_eq_true, Bool.and_eq_true, decide_eq_true_eq] at hl
  have h1 := stepsC_wpC (Q := Q) (w0 := w) (cl := cl) (role := roleGo l 0) (k0 := k0) hok (fun i c hi => by
      obtain ⟨_, ks, hg⟩ := roleGo_new hi
      exact (hl _ (List.mem_of_getElem? hg)).1) hA.get (fun i c hi o ho j hj => by
      obtain ⟨_, ka, hg⟩ := roleGo_put hi
      obtain ⟨_, ks, hg'⟩ := roleGo_new hj
      rw [hg] at hg'; injection hg' with e; injection e with e1 e2; subst e1
      have := (hl _ (List.mem_of_getElem? hg)).2
      simp only [ho] at this
      obtain ⟨e, he, hb⟩ := Array.any_eq_true'.1 this
      simp only [Bool.and_eq_true, beq_iff_eq] at hb
      exact ⟨e, he, hb.1, hb.2⟩) ops.toList 0 a (fun _ => .no) (by simp) (Nat.zero_le _) ⟨0, fun c b hb => by cases hb⟩ h
  have h2 : listedN ops.size 0 = Array.replicate ops.size false := by
    unfold listedN
    apply Array.ext
    · simp
    · intro i _ _; simp
  rw [Nat.sub_zero, h2] at h1
  exact wpC_any hA.get _ _ _ _ h1 _ ⟨⟨rfl, rfl, rfl, Nat.le_refl _, fun _ _ => rfl⟩, fun c => True.intro, fun c c' b hb => by cases hb⟩

theorem stepC_val {o : Oper} {rest : List Oper} {k : Nat} {a : Act} {ph : Nat → Ph} {v : Value} (hk : role k = .any) (hw : Region.wanted o (yielded ops a.tmps) = true)
    (hy : ∀ z, Below w0.heap.size w0 z → (execOp a.eval o).run P z = .ok (.value v) z) (hr : StepsC P ops Q w0 cl role k0 rest (k + 1) (a.put o.dst v) ph) : StepsC P ops Q w0 cl role k0 (o :: rest) k a ph := by
  refine .inr (.inr ⟨hk, v, ?_, hr⟩)
  have hv : MildV P ops w0 o v a := .inl ⟨hw, fun z hz => ⟨z, hy z hz, Below.refl _ _⟩⟩
  unfold MildK
  split
  · exact hv.mild
  · exact hv
theorem stepC_call {o : Oper} {rest : List Oper} {k : Nat} {a : Act} {ph : Nat → Ph} {v : Value} {f : FuncId} {args : Array Value} (hk : role k = .any) (hkA : decide (k < k0) = true) (hw : Region.wanted o (yielded ops a.tmps) = true)
    (hy : ∀ z, Below w0.heap.size w0 z → (execOp a.eval o).run P z = .ok (.enter f args) z) (hc : ∀ z, Below w0.heap.size w0 z → Calls P f args z fun e z' => e = .returned v ∧ Below z.heap.size z z')
    (hr : StepsC P ops Q w0 cl role k0 rest (k + 1) (a.put o.dst v) ph) : StepsC P ops Q w0 cl role k0 (o :: rest) k a ph := by
  have hk' := of_decide_eq_true hkA
  refine .inr (.inr ⟨hk, v, ?_, hr⟩)
  unfold MildK
  rw [if_pos hk']
  exact .inl ⟨hw, fun z hz => by rw [hy z hz]; exact ⟨rfl, hc z hz⟩⟩
theorem stepC_skip {o : Oper} {rest : List Oper} {k : Nat} {a : Act} {ph : Nat → Ph} (hk : role k = .any) (hw : Region.wanted o (yielded ops a.tmps) = false)
    (hr : StepsC P ops Q w0 cl role k0 rest (k + 1) (a.put o.dst undef) ph) : StepsC P ops Q w0 cl role k0 (o :: rest) k a ph := by
  refine .inr (.inr ⟨hk, undef, ?_, hr⟩)
  unfold MildK
  split
  · exact .inr ⟨hw, rfl⟩
  · exact .inr ⟨hw, rfl⟩
theorem stepC_new {o : Oper} {rest : List Oper} {k c : Nat} {a : Act} {ph : Nat → Ph} {d : Tmp} (hk : role k = .new c) (hp : ph c = .no) (hd : (cl c).slot = d)
    (hr : ∀ b, w0.heap.size ≤ b → StepsC P ops Q w0 cl role k0 rest (k + 1) (a.put (some d) (.pointer (some ⟨b, 0, none⟩))) (upd ph c (.made b))) : StepsC P ops Q w0 cl role k0 (o :: rest) k a ph :=
  .inl ⟨c, hk, hp, fun b hb _ => hd ▸ hr b hb⟩
theorem stepC_store {o : Oper} {rest : List Oper} {k c : Nat} {a : Act} {ph : Nat → Ph} {b : Nat} {t : TypeId} {cs0 cs1 : Array Value} (hk : role k = .put c) (hp : ph c = .made b) (hcl : (cl c).type = t ∧ (cl c).cs0 = cs0 ∧ (cl c).cs1 = cs1) (ho : ops[k]? = some o) (hd : o.dst = none) (hw : Region.wanted o (yielded ops a.tmps) = true)
    (hy : ∀ z, w0.heap.size ≤ b → Blk z b t cs0 → ∃ z', (execOp a.eval o).run P z = .ok .skip z' ∧ (∀ W, Below w0.heap.size W z → Below w0.heap.size W z') ∧ Blk z' b t cs1 ∧ ∀ b' t cs, b' ≠ b → Blk z b' t cs → Blk z' b' t cs)
    (hr : StepsC P ops Q w0 cl role k0 rest (k + 1) a (upd ph c (.full b))) : StepsC P ops Q w0 cl role k0 (o :: rest) k a ph := by
  obtain ⟨e1, e2, e3⟩ := hcl
  refine .inr (.inl ⟨c, b, hk, hp, ⟨o, ho, hd, hw, ?_⟩, hr⟩)
  rw [e1, e2, e3]
  exact hy
theorem stepC_end {a : Act} {ph : Nat → Ph} {k : Nat} (h : ∀ z, InvC w0 cl ph z → Q .normal a z) : StepsC P ops Q w0 cl role k0 [] k a ph := h
/-- A store elsewhere leaves a block as it was. -/
theorem Blk.set_far {w : World} {g : Nat} {t : TypeId} {cs : Array Value} (h : Blk w g t cs) {b : Nat} (hb : g ≠ b) (i : Nat) (u : Value) : Blk (w.setCell ⟨b, i, none⟩ u) g t cs := by
  unfold Blk at h ⊢
  simp [World.setCell, Array.getElem?_modify, h, Ne.symm hb]
end
end Go.Proofs.Ytamhngjhgdmgbaa
