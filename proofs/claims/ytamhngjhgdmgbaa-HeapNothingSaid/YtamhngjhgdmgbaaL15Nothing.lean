/- HeapNothing: nothing has nothing; a zero heap is a new one. For every number; no condition. -/
import Derived.Test.YtamhngjhgdmgbaaHeapAwake
import Derived.Test.YtamhngjhgdmgbaaRow
namespace Go.Proofs.Ytamhngjhgdmgbaa
open Go.ChangeShapes Go.WideShapes Go.ChangeAt Go.RowKit

theorem zero_heap (w : World) : HeapOf (w.alloc (.cells #[.slice none 0 0, .int .i64 0] 51)) w.heap.size w.heap.size (.slice none 0 0) [] 0 :=
  ⟨[], ⟨Blk.new _ _ _, World.ownsRow_nil _ _ _ _, by intro g hg; simp [Value.ownBlock] at hg, Nat.le_refl _, by intro p hp; cases hp⟩, fun i _ hi => by simp at hi, List.Perm.refl _⟩

set_option maxHeartbeats 4000000 in
theorem nothing_walk (id : Int) (w : World) :
    Calls Try.prog 4 #[.int .i64 id] w fun e w' => e = .returned (.bool true) ∧ Below w.heap.size w w' := by
  have HZ := zero_heap w
  go_enter Try.func4, Try.ntmps4
  go_wp2_with fail
  obtain ⟨W, hW⟩ : ∃ W, W = w.alloc (Obj.cells #[Value.slice none 0 0, Value.int IntKind.i64 0] 51) := ⟨_, rfl⟩
  obtain ⟨h, hh⟩ : ∃ h, h = w.heap.size := ⟨_, rfl⟩
  have B0 : Below h w W := by rw [hW, hh]; exact Below.alloc (Below.refl _ _) (Nat.le_refl _) _
  rw [← hW, ← hh]
  rw [← hW, ← hh] at HZ
  have hs : h ≤ W.heap.size := by have := B0.size; omega
  have hh' := Lib.hid hh
  clear hW hh
  refine (pushNil_any ⟨0, 0, 0, 0, true, 0⟩ _).mono ?_
  rintro e w1 ⟨rfl, hB1⟩
  have H1 := HZ.grow hB1
  have B1 := B0.trans (hB1.mono hs)
  have s1 := hB1.size
  clear HZ hB1 B0
  go_wp2_with fail
  refine (pushH_any h h _ [] 0 ⟨id, 0, 0, 0, true, 0⟩ _ H1 (by omega) (by simp) (by unfold WordE Word; simp)).mono ?_
  rintro e w2 ⟨rfl, v, H2, hk, -⟩
  have B2 := B1.trans hk.below
  have s2 := hk.below.size
  clear H1 hk B1
  go_wp2_with fail
  refine (popNil_any _).mono ?_
  rintro e w3 ⟨rfl, hB3⟩
  have H3 := H2.grow hB3
  have s3 := hB3.size
  have B3 := B2.trans (hB3.mono (by omega))
  clear H2 hB3 B2
  go_wp2_with fail
  have HT := fun (z : World) (hz : Below w3.heap.size w3 z) => topH_some h h v _ _ z (H3.grow hz) (by simp)
  refine (HT _ (by (repeat' (first | (with_reducible exact Below.refl _ _) | (with_reducible assumption) | (with_reducible refine Below.alloc ?_ ?_ _) | (with_reducible refine Below.drew ?_) | (with_reducible refine drewN_below ?_ _) | (with_reducible refine Below.setCell ?_ ?_ _) | (with_reducible refine below_call (by with_reducible assumption) ?_ ?_) | (first | (with_reducible exact Nat.le_refl _) | (with_reducible assumption) | omega | (simp; done) | (simp; omega)))))).mono ?_
  rintro e w4 ⟨p, rfl, hp, hB4⟩
  have hpid : p.e.id = id := by
    have := hp.1
    simp at this
    rw [this]
  rw [hpid]
  have G : Below w3.heap.size w3 w4 := by
    refine Below.trans ?_ (hB4.mono ?_)
    · (repeat' (first | (with_reducible exact Below.refl _ _) | (with_reducible assumption) | (with_reducible refine Below.alloc ?_ ?_ _) | (with_reducible refine Below.drew ?_) | (with_reducible refine drewN_below ?_ _) | (with_reducible refine Below.setCell ?_ ?_ _) | (with_reducible refine below_call (by with_reducible assumption) ?_ ?_) | (first | (with_reducible exact Nat.le_refl _) | (with_reducible assumption) | omega | (simp; done) | (simp; omega))))
    · simp
  have H4 := H3.grow G
  have B4 := B3.trans (G.mono (by omega))
  have HL := fun (z : World) (hz : Below w4.heap.size w4 z) => lenH_any h h v _ _ z (H4.grow hz)
  simp only [List.nil_append, List.length_cons, List.length_nil] at HL
  have s4 := G.size
  clear hp HT G hB4 H3 B3 H4 hpid
  go_wp2_with (first | (go_at_call 8; refine (awake15_any _).mono ?_; rintro e w5 ⟨rfl, hB5⟩) | (go_at_call 17; first | (refine (lenNil_any _).mono ?_; rintro e w5 ⟨rfl, rfl⟩) | (refine (HL _ (by (repeat' (first | (with_reducible exact Below.refl _ _) | (with_reducible assumption) | (with_reducible refine Below.alloc ?_ ?_ _) | (with_reducible refine Below.drew ?_) | (with_reducible refine drewN_below ?_ _) | (with_reducible refine Below.setCell ?_ ?_ _) | (with_reducible refine below_call (by with_reducible assumption) ?_ ?_) | (first | (with_reducible exact Nat.le_refl _) | (with_reducible assumption) | omega | (simp; done) | (simp; omega)))))).mono ?_; rintro e w5 ⟨rfl, rfl⟩)))
  go_ret
  refine ⟨rfl, ?_⟩
  rw [← hh'.out]
  (repeat' (first | (with_reducible exact Below.refl _ _) | (with_reducible assumption) | (with_reducible refine Below.alloc ?_ ?_ _) | (with_reducible refine Below.drew ?_) | (with_reducible refine drewN_below ?_ _) | (with_reducible refine Below.setCell ?_ ?_ _) | (with_reducible refine below_call (by with_reducible assumption) ?_ ?_) | (first | (with_reducible exact Nat.le_refl _) | (with_reducible assumption) | omega | (simp; done) | (simp; omega))))

set_option maxRecDepth 100000 in
theorem nothing_lifted (os : Os) (started : os.Started) (H : Type) (enc : TypeId × Value → H) :
    ReturnsInHanded {} Try.checked os 4 .any (Rows.heapNothingSpec.pre6 enc Try.prog Try.f4 Rows.heapNothingRow.domain false) (Rows.heapNothingSpec.post enc Try.prog Try.f4 false true false false) := by
  refine returnsInHanded_of_change (C := Try.checked) own started (by kernel_rfl) Try.func4
    (ChangeSpec.witness6 (enc := enc) (C := Try.checked) false ⟨#[], #[.int .i64 0], []⟩ 8 (by kernel_rfl) (by kernel_rfl) (by kernel_rfl) (by kernel_rfl)) ?_
  intro W base args ds gs before hval0 hW _ _
  have hval : ∀ (j : Nat) t v, Try.f4.params[j]? = some t → args[j]? = some v → Value.okWide Try.prog W .any base t v := hval0
  have hW' := hW
  obtain ⟨p, q, hA0, hV, rfl, _, _⟩ := hW
  have hA : DataW.TrodAll enc Try.prog W 0 (fun _ => true) true Try.f4.params.toList args.toList ds p := hA0
  rw [Try.params4] at hA hval
  obtain ⟨v0, vs0, d0, ds0, p0, q0, hargs, rfl, rfl, h0, r0⟩ := trodAll_cons hA
  obtain ⟨rfl, rfl, rfl⟩ := trodAll_nil r0
  obtain rfl : args = #[v0] := by cases args; simp_all
  obtain ⟨rfl, rfl⟩ := trodVars_none hV
  obtain ⟨x0a, rfl, rfl, rfl, wx0a⟩ := open_int Try.underlying3 (hval 0 3 v0 rfl rfl) h0
  refine (nothing_walk _ W).mono fun e W' ⟨he, hb⟩ => ?_
  subst he
  exact ⟨_, rfl, post_true laidOut (by kernel_rfl) rfl hW' hb (trodAll_mk1 (shut_bool Try.underlying4 _)) rfl rfl⟩

theorem nothing_holds : Rows.HeapNothingSaid :=
  OpenClaim.holds_of_wide 4 Try.f4 rfl rfl rfl rfl rfl rfl rfl ⟨rfl, rfl, rfl, rfl, rfl⟩ rfl rfl rfl rfl rfl (by kernel_rfl) Try.func4 (by kernel_rfl)
    (of_decide_eq_true (by kernel_rfl)) (by unfold Func.isWrapper; rw [if_neg (of_decide_eq_false (by kernel_rfl))]; exact ⟨rfl, rfl⟩)
    (fun os started H enc _ => nothing_lifted os started H enc)
#print axioms nothing_holds
end Go.Proofs.Ytamhngjhgdmgbaa
