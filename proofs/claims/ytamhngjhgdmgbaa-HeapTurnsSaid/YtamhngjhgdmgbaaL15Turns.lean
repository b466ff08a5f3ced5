/- HeapTurns: it does not matter in what order entries are pushed, for what is popped, if no two are alike. For every list of ints; no condition. -/
import Derived.Test.YtamhngjhgdmgbaaHeapK
namespace Go.Proofs.Ytamhngjhgdmgbaa
open Go.ChangeShapes Go.WideShapes Go.ChangeAt Go.RowKit

set_option maxHeartbeats 4000000 in
theorem turns_walk (v : Value) (l : List Int) (w : World) (hes : IsInts w v l) :
    Calls Try.prog 5 #[v] w fun e w' => e = .returned (.bool true) ∧ Below w.heap.size w w' := by
  have HE := Lib.hid hes
  obtain ⟨⟨a, cap, rfl, -⟩, -⟩ := hes
  obtain ⟨n, hn⟩ : ∃ n, l.length = n := ⟨_, rfl⟩
  have HN := Lib.hid hn
  rw [hn] at HE ⊢
  clear hn
  by_cases hlong : 100 < n
  · have h1 : (100 : Int) < (n : Int) := by omega
    go_enter Try.func5, Try.ntmps5
    go_wp2_with (go_at_call 8; refine (awake15_any _).mono ?_; rintro e w5 ⟨rfl, hB5⟩)
    go_ret
    exact ⟨rfl, by (repeat' (first | (with_reducible exact Below.refl _ _) | (with_reducible assumption) | (with_reducible refine Below.alloc ?_ ?_ _) | (with_reducible refine Below.drew ?_) | (with_reducible refine drewN_below ?_ _) | (with_reducible refine Below.setCell ?_ ?_ _) | (with_reducible refine below_call (by with_reducible assumption) ?_ ?_) | (first | (with_reducible exact Nat.le_refl _) | (with_reducible assumption) | omega | (simp; done) | (simp; omega))))⟩
  · have h1 : ¬ (100 : Int) < (n : Int) := by omega
    go_enter Try.func5, Try.ntmps5
    go_upto_region 4 with (go_at_call 9; refine (newH_any _).mono ?_; rintro e w1 ⟨ha, rfl, Ha, hB1, hha⟩)
    obtain ⟨W0, hW0⟩ : ∃ W0, W0 = w.alloc (Obj.cells #[Value.slice a n cap] 53) := ⟨_, rfl⟩
    obtain ⟨bx, hbx⟩ : ∃ bx, bx = w.heap.size := ⟨_, rfl⟩
    have hsz : (w.alloc (Obj.cells #[Value.slice a n cap] 53)).heap.size = bx + 1 := by simp [hbx]
    rw [hsz, ← hW0] at hB1
    rw [hsz] at Ha hha
    rw [← hbx]
    have b0 : W0.cell? ⟨bx, 0, none⟩ = some (.slice a n cap) := by
      rw [hW0]
      exact (Blk.new' (w := w) 53 #[Value.slice a n cap] hbx).cell 0
    have B0 : Below w.heap.size w W0 := by rw [hW0]; exact Below.alloc (Below.refl _ _) (Nat.le_refl _) _
    have bs0 : bx + 1 ≤ W0.heap.size := by rw [hW0]; simp [hbx]
    -- whatever world above W0: the box, the ints
    have HW := fun (z : World) (hz : Below (bx + 1) W0 z) => (⟨(hz.cell (p := ⟨bx, 0, none⟩) (by show bx < bx + 1; omega)).trans b0, HE.out.keep (B0.trans (hz.mono (by omega)))⟩ : z.cell? ⟨bx, 0, none⟩ = some (.slice a n cap) ∧ IsInts z (.slice a n cap) l)
    have HBX := Lib.hid HW
    have HB0 := Lib.hid B0
    have HBX0 := Lib.hid hbx
    clear HW b0 B0 hbx hsz hW0 HE
    go_upto_region 5 with (go_at_call 9; refine (newH_any _).mono ?_; rintro e w2 ⟨hb, rfl, Hb0, hB2, hhb⟩)
    have Ha2 := Ha.grow hB2
    have Hb := Hb0.mono_base (B' := bx + 1) (by have := hB1.size; omega)
    have hS : Sep ha hb (.slice none 0 0) (.slice none 0 0) := ⟨by have := Ha.lt; omega, by simp [Value.ownBlock], by simp [Value.ownBlock], by simp [Value.ownBlock]⟩
    have hB3 : Below (bx + 1) W0 w2 := hB1.trans (hB2.mono (by have := hB1.size; omega))
    have nw := (HBX.out w2 hB3).1
    clear Ha Hb0 hB1 hB2 hha hhb
    go_wp2_with fail
    go_loopw [6] (fun s wr => ∃ (i : Nat) (va vb : Value), s = .int .i64 i ∧ i ≤ n ∧ HeapOf wr (bx + 1) ha va (tA l i) i ∧ HeapOf wr (bx + 1) hb vb (tB l n i) i ∧ Sep ha hb va vb ∧ Below (bx + 1) W0 wr) (fun s _ => n - (intOf s).toNat)
    case atStart => exact ⟨0, _, _, rfl, Nat.zero_le _, Ha2, Hb, hS, hB3⟩
    case round =>
      clear Ha2 Hb hS hB3 nw
      obtain ⟨i, va, vb, rfl, hi, HA, HB, hS, hW⟩ := hrel
      obtain ⟨nw, hIs⟩ := HBX.out wr hW
      by_cases hlt : i < n
      · have hlt' : (i : Int) < (n : Int) := by omega
        have hln := HN.out
        obtain ⟨r, hr⟩ : ∃ r, n - 1 - i = r := ⟨_, rfl⟩
        have I1 : (n : Int) - 1 - (i : Int) = (r : Int) := by omega
        have m1 := IntWalk.i64_in (n := (n : Int) - 1) (by omega)
        have m2 := IntWalk.i64_in (n := (r : Int)) (by omega)
        have hrl : r < l.length := by omega
        have HR := Lib.hid hr
        have HRL := Lib.hid hrl
        have HC1 := closure_any l _ bx i wr hIs nw (by omega) (by omega)
        have hsw := hW.size
        have HAo := Lib.hid HA
        have HBo := Lib.hid HB
        have HSo := Lib.hid hS
        have HWo := Lib.hid hW
        have HLN := Lib.hid hln
        clear HA HB hS hW hln hr hrl hIs
        go_wp2_with fail
        refine HC1.mono ?_
        rintro e w3 ⟨rfl, hC1⟩
        have W3 := HWo.out.trans (hC1.mono (by omega))
        have hs3 := hC1.size
        have HP1 := pushH_any (bx + 1) ha va _ _ (tE l i) w3 (HAo.out.grow hC1) (by omega) (by rw [tA_length]; omega) (tE_word _ _)
        have HB3 := HBo.out.grow hC1
        have HB3o := Lib.hid HB3
        have HW3 := Lib.hid W3
        clear HC1 hC1 HB3 W3 nw
        go_wp2_with fail
        refine HP1.mono ?_
        rintro e w4 ⟨rfl, va', HA4, kA, oA⟩
        have W4 := HW3.out.trans kA.below
        obtain ⟨nw, hIs⟩ := HBX.out w4 W4
        have HB4 := HSo.out.keep HB3o.out kA
        have S4 := HSo.out.step oA HB3o.out
        have hs4 := kA.below.size
        have HC2 := closure_any l _ bx r w4 hIs nw HRL.out (by have := HLN.out; omega)
        have HA4o := Lib.hid HA4
        have HB4o := Lib.hid HB4
        have S4o := Lib.hid S4
        have W4o := Lib.hid W4
        clear HP1 HA4 kA oA W4 HB4 S4 hIs
        go_wp2_with fail
        refine HC2.mono ?_
        rintro e w5 ⟨rfl, hC2⟩
        have hs5 := hC2.size
        have HP2 := pushH_any (bx + 1) hb vb _ _ (tE l r) w5 (HB4o.out.grow hC2) (by omega) (by rw [tB_length]; omega) (tE_word _ _)
        have HA5 := HA4o.out.grow hC2
        have W5 := W4o.out.trans (hC2.mono (by have := W4o.out.size; omega))
        have HA5o := Lib.hid HA5
        have W5o := Lib.hid W5
        clear HC2 hC2 HA5 W5 nw
        go_wp2_with fail
        refine HP2.mono ?_
        rintro e w6 ⟨rfl, vb', HB6, kB, oB⟩
        have HA6 := Lib.hid (S4o.out.symm.keep HA5o.out kB)
        have S6 := Lib.hid (S4o.out.symm.step oB HA5o.out).symm
        have W6 := Lib.hid (W5o.out.trans kB.below)
        have HB6o := Lib.hid HB6
        clear HP2 HB6 kB oB
        go_wp2_with fail
        go_roundw
        case rel =>
          refine ⟨i + 1, va', vb', by go_num, by omega, HA6.out, ?_, S6.out, W6.out⟩
          have := HB6o.out
          rw [← HR.out] at this
          exact this
        case measure => simp [intOf]; omega
      · have hin : i = n := by omega
        subst hin
        have hlt' : ¬ (i : Int) < (i : Int) := by omega
        have HAo := Lib.hid HA
        have HBo := Lib.hid HB
        have HSo := Lib.hid hS
        have HWo := Lib.hid hW
        clear HA HB hS hW hIs
        go_wp2_with fail
        clear nw
        go_loopw [7] (fun s wr => ∃ (j : Nat) (la lb : List Psh) (va vb : Value), s = .int .i64 j ∧ j ≤ i ∧ la.length = i - j ∧ HeapOf wr (bx + 1) ha va la i ∧ HeapOf wr (bx + 1) hb vb lb i ∧ Sep ha hb va vb ∧ (la.map (·.e)).Perm (lb.map (·.e)) ∧ (∀ x ∈ la, ∃ k, x.e = tE l k) ∧ Below (bx + 1) W0 wr) (fun s _ => i - (intOf s).toNat)
        case atStart => exact ⟨0, _, _, va, vb, rfl, Nat.zero_le _, by rw [tA_length]; omega, HAo.out, HBo.out, HSo.out, turns_start l i, tA_form l i, HWo.out⟩
        case round =>
          clear HAo HBo HSo HWo
          obtain ⟨j, la, lb, va, vb, rfl, hj, hlen, HA, HB, hS, hm, ht, hW⟩ := hrel
          obtain ⟨nw, -⟩ := HBX.out wr hW
          have hlenb : lb.length = la.length := by have := hm.length_eq; simpa using this.symm
          by_cases hji : j < i
          · have hji' : (j : Int) < (i : Int) := by omega
            have HP1 := popH_some (bx + 1) ha va la _ wr HA (by omega) (by omega)
            have HBo := Lib.hid HB
            have HSo := Lib.hid hS
            have HMo := Lib.hid hm
            have HTo := Lib.hid ht
            have HWo := Lib.hid hW
            have HLo := Lib.hid hlen
            have HLb := Lib.hid hlenb
            have hsw := hW.size
            clear HA HB hS hm ht hW hlen hlenb
            go_upto_region 17 with (go_at_call 12; refine HP1.mono ?_; rintro e w3 ⟨p, la', va', rfl, hp, hq, HA3, kA, oA⟩)
            obtain ⟨W3, hW3⟩ : ∃ W3, W3 = w3.alloc (.cells #[.int .i64 p.e.id, .int .u64 p.e.hi, .int .u64 p.e.lo, .int .u64 p.e.den, .bool p.e.item, .int .i64 p.e.node] 40) := ⟨_, rfl⟩
            obtain ⟨F, hF⟩ : ∃ F, F = w3.heap.size := ⟨_, rfl⟩
            rw [← hW3, ← hF]
            have g3 : Below w3.heap.size w3 W3 := by rw [hW3]; exact Below.alloc (Below.refl _ _) (Nat.le_refl _) _
            have bF : Blk W3 F 40 #[.int .i64 p.e.id, .int .u64 p.e.hi, .int .u64 p.e.lo, .int .u64 p.e.den, .bool p.e.item, .int .i64 p.e.node] := by rw [hW3]; exact Blk.new' _ _ hF
            have HB3 := (HSo.out.keep HBo.out kA)
            have S3 := HSo.out.step oA HBo.out
            have hs3 := kA.below.size
            have HB3w := HB3.grow g3
            have HA3w := HA3.grow g3
            have nb1 : F ≠ hb := by have := HB3.lt; omega
            have nb2 : vb.ownBlock ≠ some F := fun e => by have := (HB3.own_lt e).2; omega
            have WW := (HWo.out.trans kA.below).trans (g3.mono (by omega))
            have HP2 := popH_some (bx + 1) hb vb lb _ W3 HB3w (by have := HLo.out; have := HLb.out; omega) (by have := HLo.out; have := HLb.out; omega)
            have HA3o := Lib.hid HA3w
            have S3o := Lib.hid S3
            have WWo := Lib.hid WW
            have bFo := Lib.hid bF
            have hpo := Lib.hid hp
            have hqo := Lib.hid hq
            have nb1o := Lib.hid nb1
            have nb2o := Lib.hid nb2
            have hszW := WW.size
            clear HP1 hp hq HA3 kA oA hW3 hF g3 bF HB3 S3 HB3w HA3w nb1 nb2 WW nw hs3
            go_upto_region 18 with (go_at_call 12; refine HP2.mono ?_; rintro e w4 ⟨q, lb', vb', rfl, hp2, hq2, HB4, kB, oB⟩)
            have he := turns_same hpo.out hp2 HMo.out HTo.out
            have hmr := turns_rest HMo.out hqo.out hq2 he
            have htr : ∀ x ∈ la', ∃ k, x.e = tE l k := fun x hx => HTo.out x (hqo.out.mem_iff.1 (List.mem_cons_of_mem _ hx))
            have hll : la'.length = i - (j + 1) := by
              have := hqo.out.length_eq
              have := HLo.out
              simp at *
              omega
            rw [← he]
            have bF4 := kB.blk bFo.out nb1o.out nb2o.out
            have HA4 := S3o.out.symm.keep HA3o.out kB
            have S4 := (S3o.out.symm.step oB HA3o.out).symm
            have W4 := WWo.out.trans kB.below
            clear hp2 hq2 he hpo hqo
            generalize p.e = x at *
            obtain ⟨W5, hW5⟩ : ∃ W5, W5 = w4.alloc (.cells #[.int .i64 x.id, .int .u64 x.hi, .int .u64 x.lo, .int .u64 x.den, .bool x.item, .int .i64 x.node] 40) := ⟨_, rfl⟩
            obtain ⟨G, hG⟩ : ∃ G, G = w4.heap.size := ⟨_, rfl⟩
            rw [← hW5, ← hG]
            have gB5 : Below w4.heap.size w4 W5 := by rw [hW5]; exact Below.alloc (Below.refl _ _) (Nat.le_refl _) _
            have bG : Blk W5 G 40 #[.int .i64 x.id, .int .u64 x.hi, .int .u64 x.lo, .int .u64 x.den, .bool x.item, .int .i64 x.node] := by rw [hW5]; exact Blk.new' _ _ hG
            have bF5 := blk_grow bF4 gB5
            have HA5 := Lib.hid (HA4.grow gB5)
            have HB5 := Lib.hid (HB4.grow gB5)
            have W5o := Lib.hid (W4.trans (gB5.mono (by have := W4.size; omega)))
            have S5o := Lib.hid S4
            have hmro := Lib.hid hmr
            have htro := Lib.hid htr
            have hllo := Lib.hid hll
            have f0 := bF5.cell 0
            have g0 := bG.cell 0
            have f1 := bF5.cell 1
            have g1 := bG.cell 1
            have f2 := bF5.cell 2
            have g2 := bG.cell 2
            have f3 := bF5.cell 3
            have g3 := bG.cell 3
            have f4 := bF5.cell 4
            have g4 := bG.cell 4
            have f5 := bF5.cell 5
            have g5 := bG.cell 5
            simp at f0 f1 f2 f3 f4 f5 g0 g1 g2 g3 g4 g5
            have bGo := Lib.hid bG
            have bF5o := Lib.hid bF5
            clear HP2 HB4 kB oB hmr htr hll bF4 HA4 S4 W4 hW5 hG gB5 bG bF5
            go_wp2_with fail
            go_roundw
            case rel => exact ⟨j + 1, la', lb', va', vb', by go_num, by omega, hllo.out, HA5.out, HB5.out, S5o.out, hmro.out, htro.out, W5o.out⟩
            case measure => simp [intOf]; omega
          · have hji2 : j = i := by omega
            subst hji2
            have hji' : ¬ (j : Int) < (j : Int) := by omega
            have hnil : la = [] := List.eq_nil_of_length_eq_zero (by omega)
            have hnilb : lb = [] := List.eq_nil_of_length_eq_zero (by omega)
            subst hnil hnilb
            have HQa := fun (z : World) (hz : Below wr.heap.size wr z) => lenH_any _ ha va _ _ z (HA.grow hz)
            have HQb := fun (z : World) (hz : Below wr.heap.size wr z) => lenH_any _ hb vb _ _ z (HB.grow hz)
            simp only [List.length_nil] at HQa HQb
            have hsw := hW.size
            have HWo := Lib.hid hW
            clear HA HB hS hm ht hlen hlenb hW
            go_wp2_with fail
            refine (HQa _ (by (repeat' (first | (with_reducible exact Below.refl _ _) | (with_reducible assumption) | (with_reducible refine Below.alloc ?_ ?_ _) | (with_reducible refine Below.drew ?_) | (with_reducible refine drewN_below ?_ _) | (with_reducible refine Below.setCell ?_ ?_ _) | (with_reducible refine below_call (by with_reducible assumption) ?_ ?_) | (first | (with_reducible exact Nat.le_refl _) | (with_reducible assumption) | omega | (simp; done) | (simp; omega)))))).mono ?_
            rintro e w5 ⟨rfl, rfl⟩
            go_wp2_with fail
            refine (HQb _ (by (repeat' (first | (with_reducible exact Below.refl _ _) | (with_reducible assumption) | (with_reducible refine Below.alloc ?_ ?_ _) | (with_reducible refine Below.drew ?_) | (with_reducible refine drewN_below ?_ _) | (with_reducible refine Below.setCell ?_ ?_ _) | (with_reducible refine below_call (by with_reducible assumption) ?_ ?_) | (first | (with_reducible exact Nat.le_refl _) | (with_reducible assumption) | omega | (simp; done) | (simp; omega)))))).mono ?_
            rintro e w5 ⟨rfl, rfl⟩
            go_wp2_with (go_at_call 8; refine (awake15_any _).mono ?_; rintro e w5 ⟨rfl, hB5⟩; have hs5 := hB5.size; try simp at hs5)
            go_ret
            refine ⟨rfl, HB0.out.trans ((HWo.out.trans (Below.mono (B := wr.heap.size) ?_ (by omega))).mono (by have := HBX0.out; omega))⟩
            (repeat' (first | (with_reducible exact Below.refl _ _) | (with_reducible assumption) | (with_reducible refine Below.alloc ?_ ?_ _) | (with_reducible refine Below.drew ?_) | (with_reducible refine drewN_below ?_ _) | (with_reducible refine Below.setCell ?_ ?_ _) | (with_reducible refine below_call (by with_reducible assumption) ?_ ?_) | (first | (with_reducible exact Nat.le_refl _) | (with_reducible assumption) | omega | (simp; done) | (simp; omega))))
set_option maxRecDepth 100000 in
theorem turns_lifted (os : Os) (started : os.Started) (H : Type) (enc : TypeId × Value → H) :
    ReturnsInHanded {} Try.checked os 5 .any (Rows.heapTurnsSpec.pre6 enc Try.prog Try.f5 Rows.heapTurnsRow.domain false) (Rows.heapTurnsSpec.post enc Try.prog Try.f5 false true false false) := by
  refine returnsInHanded_of_change (C := Try.checked) own started (by kernel_rfl) Try.func5
    (ChangeSpec.witness6 (enc := enc) (C := Try.checked) false ⟨#[], #[.slice none 0 0], []⟩ 8 (by kernel_rfl) (by kernel_rfl) (by kernel_rfl) (by kernel_rfl)) ?_
  intro W base args ds gs before hval0 hW _ _
  have hval : ∀ (j : Nat) t v, Try.f5.params[j]? = some t → args[j]? = some v → Value.okWide Try.prog W .any base t v := hval0
  have hW' := hW
  obtain ⟨p, q, hA0, hV, rfl, _, _⟩ := hW
  have hA : DataW.TrodAll enc Try.prog W 0 (fun _ => true) true Try.f5.params.toList args.toList ds p := hA0
  rw [Try.params5] at hA hval
  obtain ⟨v0, vs0, d0, ds0, p0, q0, hargs, rfl, rfl, h0, r0⟩ := trodAll_cons hA
  obtain ⟨rfl, rfl, rfl⟩ := trodAll_nil r0
  obtain rfl : args = #[v0] := by cases args; simp_all
  obtain ⟨rfl, rfl⟩ := trodVars_none hV
  obtain ⟨x0a, wx0a⟩ := open_ints' (hval 0 53 v0 rfl rfl) h0
  refine (turns_walk _ _ W wx0a).mono fun e W' ⟨he, hb⟩ => ?_
  subst he
  exact ⟨_, rfl, post_true laidOut (by kernel_rfl) rfl hW' hb (trodAll_mk1 (shut_bool Try.underlying4 _)) rfl rfl⟩

theorem turns_holds : Rows.HeapTurnsSaid :=
  OpenClaim.holds_of_wide 5 Try.f5 rfl rfl rfl rfl rfl rfl rfl ⟨rfl, rfl, rfl, rfl, rfl⟩ rfl rfl rfl rfl rfl (by kernel_rfl) Try.func5 (by kernel_rfl)
    (of_decide_eq_true (by kernel_rfl)) (by unfold Func.isWrapper; rw [if_neg (of_decide_eq_false (by kernel_rfl))]; exact ⟨rfl, rfl⟩)
    (fun os started H enc _ => turns_lifted os started H enc)
#print axioms turns_holds
end Go.Proofs.Ytamhngjhgdmgbaa
