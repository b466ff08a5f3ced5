/- Package wide: Parse reads a numeral of two words, or refuses. -/
import Derived.Test.YtpmnghobcciiaaaDoorParseMath
import Derived.Test.YtpmnghobcciiaaaDoorText
import Derived.Test.YtpmnghobcciiaaaDoorWTimes
import Derived.Test.YtpmnghobcciiaaaDoorDiv2
namespace Go.Proofs.YtpmnghobcciiaaaDoor
open Go.RowKit

/-- What Parse answers of a text. -/
def parseRet (l : List UInt8) : Value := if okL l = true then .tuple #[.agg #[.int .u64 (hiOf (decVal l)), .int .u64 (loOf (decVal l))], .bool true] else .tuple #[.agg #[.int .u64 0, .int .u64 0], .bool false]
theorem parse_bad {l : List UInt8} (h : okL l = false) : parseRet l = .tuple #[.agg #[.int .u64 0, .int .u64 0], .bool false] := by unfold parseRet; rw [h]; rfl
theorem parse_good {l : List UInt8} (h : okL l = true) : parseRet l = .tuple #[.agg #[.int .u64 (hiOf (decVal l)), .int .u64 (loOf (decVal l))], .bool true] := by unfold parseRet; rw [if_pos h]

theorem index_at (s : ByteArray) (i : Nat) (h : i < s.data.toList.length) (W : World) : (Instr.index 9 (.string s) (.int .i64 (i : Int))).run Tryd.prog W = .ok (.int .u8 ((s.data.toList.getD i 0).toNat : Int)) W := by
  have hs : s.size = s.data.toList.length := Lib.size_eq s
  rw [run_index_string W _ s _ _ Tryd.underlying9, dif_pos ⟨by omega, by omega⟩]
  congr 2
  rw [List.getD_eq_getElem?_getD, List.getElem?_eq_getElem h]
  simp [ByteArray.getElem_eq_getElem_data]

theorem byte_bd (x : UInt8) : 0 ≤ (x.toNat : Int) ∧ (x.toNat : Int) ≤ 255 := by
  have := x.toNat_lt; omega

set_option maxHeartbeats 8000000 in
theorem parse_any (s : ByteArray) (w : World) (htab : Tab w) :
    Calls Tryd.prog 29 #[.string s] w fun e w' => e = .returned (parseRet s.data.toList) ∧ Below w.heap.size w w' := by
  have hsz : s.size = s.data.toList.length := Lib.size_eq s
  have HI := index_at s
  have hbeq := fun n => str_beq (numeral n) s
  have hsl : ∀ n : Int, numeral n = s ↔ s.data.toList = Lib.decDigits n.toNat := by
    intro n
    constructor
    · intro h; rw [← h]; rfl
    · intro h; unfold numeral; rw [← h]
  generalize hl : s.data.toList = l at *
  by_cases h0 : l.length = 0
  · have hnil : l = [] := List.eq_nil_of_length_eq_zero h0
    have HV := Lib.hid (parse_bad (l := l) (by rw [hnil]; exact bad_nil))
    have hs0 : s.size = 0 := by omega
    clear hl hnil h0 hbeq HI hsz hsl
    go_enter Tryd.func29, Tryd.ntmps29
    go_wp2
    exact bodyPost_ret (v := .tuple #[.agg #[.int .u64 0, .int .u64 0], .bool false]) (by simp [*, results, Tryd.results29, go_sem]) rfl ⟨by rw [HV.out], by (repeat' (first | (with_reducible exact Below.refl _ _) | (with_reducible assumption) | (with_reducible refine Below.alloc ?_ ?_ _) | (with_reducible refine Below.drew ?_) | (with_reducible refine drewN_below ?_ _) | (with_reducible refine Below.setCell ?_ ?_ _) | (with_reducible refine below_call (by with_reducible assumption) ?_ ?_) | (first | (with_reducible exact Nat.le_refl _) | (with_reducible assumption) | omega | (simp; done) | (simp; omega))))⟩
  by_cases h39 : 39 < l.length
  · have HV := Lib.hid (parse_bad (bad_long h39))
    have hs0 : ¬ s.size = 0 := by omega
    have hs1 : (39 : Int) < (s.size : Int) := by omega
    clear hl hbeq HI hsz h39 hsl
    go_enter Tryd.func29, Tryd.ntmps29
    go_wp2
    exact bodyPost_ret (v := .tuple #[.agg #[.int .u64 0, .int .u64 0], .bool false]) (by simp [*, results, Tryd.results29, go_sem]) rfl ⟨by rw [HV.out], by (repeat' (first | (with_reducible exact Below.refl _ _) | (with_reducible assumption) | (with_reducible refine Below.alloc ?_ ?_ _) | (with_reducible refine Below.drew ?_) | (with_reducible refine drewN_below ?_ _) | (with_reducible refine Below.setCell ?_ ?_ _) | (with_reducible refine below_call (by with_reducible assumption) ?_ ?_) | (first | (with_reducible exact Nat.le_refl _) | (with_reducible assumption) | omega | (simp; done) | (simp; omega))))⟩
  · have hs1 : ¬ (39 : Int) < (s.size : Int) := by omega
    have hs0 : ¬ s.size = 0 := by omega
    go_enter Tryd.func29, Tryd.ntmps29
    go_wp2
    go_loopw [21] (fun t wr => ∃ i : Nat, i ≤ l.length ∧ t = .int .i64 i ∧ decVal (l.take i) < 340282366920938463463374607431768211456 ∧ Blk wr w.heap.size 24 #[.int .u64 0, .int .u64 0] ∧ Blk wr (w.heap.size + 1) 24 #[.int .u64 (hiOf (decVal (l.take i))), .int .u64 (loOf (decVal (l.take i)))] ∧ Below w.heap.size w wr) (fun t _ => l.length - (intOf t).toNat)
    case atStart =>
      refine ⟨0, Nat.zero_le _, rfl, by simp [decVal], ?_, ?_, by (repeat' (first | (with_reducible exact Below.refl _ _) | (with_reducible assumption) | (with_reducible refine Below.alloc ?_ ?_ _) | (with_reducible refine Below.drew ?_) | (with_reducible refine drewN_below ?_ _) | (with_reducible refine Below.setCell ?_ ?_ _) | (with_reducible refine below_call (by with_reducible assumption) ?_ ?_) | (first | (with_reducible exact Nat.le_refl _) | (with_reducible assumption) | omega | (simp; done) | (simp; omega))))⟩
      · exact (Blk.new' _ _ (by first | rfl | simp)).alloc _
      · rw [show decVal (l.take 0) = 0 from rfl, show hiOf ((0 : Nat) : Int) = 0 from rfl, show loOf ((0 : Nat) : Int) = 0 from rfl]
        exact Blk.new' _ _ (by first | rfl | simp)
    case round =>
      obtain ⟨i, hi, rfl, hbig, hb2, hb4, hB⟩ := hrel
      have hzz := hB.size
      have k20 := hb2.cell 0
      have k21 := hb2.cell 1
      have g20 := hb2.frozen 0
      have g21 := hb2.frozen 1
      have k40 := hb4.cell 0
      have k41 := hb4.cell 1
      have g40 := hb4.frozen 0
      have g41 := hb4.frozen 1
      simp at k20 k21 k40 k41
      have hN : Big (decVal (l.take i) : Int) := by unfold Big; omega
      have hTw : Tab wr := htab.below hB
      by_cases hlt : i < l.length
      · have hidx := HI i hlt
        have hst := take_step l i hlt
        have hbd := byte_bd (l.getD i 0)
        have hdig : 48 ≤ (l.getD i 0).toNat ∧ (l.getD i 0).toNat ≤ 57 ∨ ((l.getD i 0).toNat < 48 ∨ 57 < (l.getD i 0).toNat) := by omega
        rcases hdig with hdig | hdig
        · have hcd : (((l.getD i 0).toNat : Int) - 48) = (((l.getD i 0).toNat - 48 : Nat) : Int) := by omega
          have hbad := fun h => bad_big (l := l) (k := i + 1) h
          rw [hst] at hbad
          generalize hc : ((l.getD i 0).toNat : Int) = c at *
          have hsub : IntKind.u8.wrap (c - 48) = c - 48 := by rw [IntKind.wrap_u8]; omega
          have hcv : IntKind.u64.wrap (c - 48) = c - 48 := by rw [IntKind.wrap_u64]; omega
          have hc0 : ¬ c < 48 := by omega
          have hc1 : ¬ 57 < c := by omega
          have HT := fun w => wtimes_any (hiOf (decVal (l.take i))) (loOf (decVal (l.take i))) 10 (hiOf_word _) (loOf_word _) (by unfold Word; omega) w
          rw [num_hl hN] at HT
          have HA := fun w => wadd_any (hiOf ((decVal (l.take i) : Int) * 10)) (loOf ((decVal (l.take i) : Int) * 10)) 0 (c - 48) (hiOf_word _) (loOf_word _) (by unfold Word; omega) (by unfold Word; omega) w
          have hn0 : num 0 (c - 48) = c - 48 := by unfold num; omega
          rw [hn0] at HA
          by_cases hov : (decVal (l.take i) : Int) * 10 < 340282366920938463463374607431768211456
          · have hN10 : Big ((decVal (l.take i) : Int) * 10) := by unfold Big at *; omega
            have htop : topOf ((decVal (l.take i) : Int) * 10) = 0 := by unfold topOf; unfold Big at hN10; omega
            rw [num_hl hN10] at HA
            rw [htop] at HT
            by_cases hov2 : (decVal (l.take i) : Int) * 10 + (c - 48) < 340282366920938463463374607431768211456
            · have hover : overB ((decVal (l.take i) : Int) * 10 + (c - 48)) = false := by unfold overB; simp; omega
              have hnext : (decVal (l.take i) : Int) * 10 + (c - 48) = ((decVal (l.take (i + 1)) : Nat) : Int) := by rw [hst]; omega
              rw [hover, hnext] at HA
              have hV1 : decVal (l.take (i + 1)) < 340282366920938463463374607431768211456 := by omega
              generalize hV : decVal (l.take (i + 1)) = V at *
              have HN := Lib.hid hV1; have HVV := Lib.hid hV
              have HC := Lib.hid hc; have H2 := Lib.hid hb2; have H4 := Lib.hid hb4
              generalize hiOf ((decVal (l.take i) : Int) * 10) = T1 at *
              generalize loOf ((decVal (l.take i) : Int) * 10) = T0 at *
              clear HI hbeq hsl hc hnext hover hov hov2 hst hbad hbig hN hN10 htop hn0 hdig hcd hb2 hb4 hV hV1
              go_wp2_with fail
              refine (HT _).mono ?_; rintro e w1 ⟨rfl, hB1⟩; obtain ⟨hc1, hf1⟩ := keep hB1; have hz1 := hB1.size; try simp at hz1
              go_wp2_with fail
              (refine wp_region_cells [(11, 12)] 11 (fun c => match c with | _ => ⟨8, 24, #[.int .u64 0, .int .u64 0], #[.int .u64 (hiOf V), .int .u64 (loOf V)]⟩) (by kernel_rfl) (by kernel_rfl) (by kernel_rfl) ⟨⟨_, rfl, rfl, rfl, ?_⟩, True.intro⟩ ?_; (· (intro a z; go_simp; first | done | (with_reducible rfl) | rfl)); (repeat (first | (refine stepC_val (v := ?_) (by rfl) (by rfl) ?_ ?_; rotate_left; (· (intro z hz; obtain ⟨hc, hf⟩ := keep hz; go_simp; first | done | (with_reducible rfl))); (try simp only [Act.put, List.setIfInBounds_toArray, List.set_cons_zero, List.set_cons_succ])) | (refine stepC_skip (by rfl) (by rfl) ?_; (try simp only [Act.put, List.setIfInBounds_toArray, List.set_cons_zero, List.set_cons_succ])) | (refine stepC_call (v := ?_) (f := ?_) (args := ?_) (by rfl) (by rfl) (by rfl) ?_ ?_ ?_; rotate_left; rotate_left; rotate_left; (· (intro z hz; (go_simp; first | done | (with_reducible rfl) | (constructor <;> with_reducible rfl)))); (· (intro z hz; first | (go_at_call 16; refine (HA _).mono ?_; rintro e w' ⟨rfl, hB⟩; refine ⟨?_, hB⟩; with_reducible rfl))); (try simp only [Act.put, List.setIfInBounds_toArray, List.set_cons_zero, List.set_cons_succ])) | (refine stepC_store (t := 24) (cs0 := #[.int .u64 0, .int .u64 0]) (cs1 := #[.int .u64 (hiOf V), .int .u64 (loOf V)]) (by rfl) (by rfl) ⟨rfl, rfl, rfl⟩ (by rfl) (by rfl) (by rfl) ?_ ?_; (· (intro z hb1_9 hk; have k0 := hk.cell 0; have g0 := hk.frozen 0; (try simp at k0); have k1 := hk.cell 1; have g1 := hk.frozen 1; (try simp at k1); refine ⟨?_, ?_, ?_, ?_, ?_⟩; rotate_left; (· (go_simp; first | done | (with_reducible rfl) | (constructor <;> with_reducible rfl))); (· (intro W hW; exact ((hW.setCell hb1_9 _).setCell hb1_9 _))); (· exact ((hk.set_ 0 (.int .u64 (hiOf V))).set_ 1 (.int .u64 (loOf V)))); (· (intro b' t' cs' hne h; exact ((h.set_far hne 0 _).set_far hne 1 _))))); (try simp only [Act.put, List.setIfInBounds_toArray, List.set_cons_zero, List.set_cons_succ])))); (refine stepC_new (by rfl) (by rfl) (by rfl) ?_; intro b0_9 hb0_9; (try simp only [Act.put, List.setIfInBounds_toArray, List.set_cons_zero, List.set_cons_succ])); (repeat (first | (refine stepC_val (v := ?_) (by rfl) (by rfl) ?_ ?_; rotate_left; (· (intro z hz; obtain ⟨hc, hf⟩ := keep hz; go_simp; first | done | (with_reducible rfl))); (try simp only [Act.put, List.setIfInBounds_toArray, List.set_cons_zero, List.set_cons_succ])) | (refine stepC_skip (by rfl) (by rfl) ?_; (try simp only [Act.put, List.setIfInBounds_toArray, List.set_cons_zero, List.set_cons_succ])) | (refine stepC_call (v := ?_) (f := ?_) (args := ?_) (by rfl) (by rfl) (by rfl) ?_ ?_ ?_; rotate_left; rotate_left; rotate_left; (· (intro z hz; (go_simp; first | done | (with_reducible rfl) | (constructor <;> with_reducible rfl)))); (· (intro z hz; first | (go_at_call 16; refine (HA _).mono ?_; rintro e w' ⟨rfl, hB⟩; refine ⟨?_, hB⟩; with_reducible rfl))); (try simp only [Act.put, List.setIfInBounds_toArray, List.set_cons_zero, List.set_cons_succ])) | (refine stepC_store (t := 24) (cs0 := #[.int .u64 0, .int .u64 0]) (cs1 := #[.int .u64 (hiOf V), .int .u64 (loOf V)]) (by rfl) (by rfl) ⟨rfl, rfl, rfl⟩ (by rfl) (by rfl) (by rfl) ?_ ?_; (· (intro z hb1_9 hk; have k0 := hk.cell 0; have g0 := hk.frozen 0; (try simp at k0); have k1 := hk.cell 1; have g1 := hk.frozen 1; (try simp at k1); refine ⟨?_, ?_, ?_, ?_, ?_⟩; rotate_left; (· (go_simp; first | done | (with_reducible rfl) | (constructor <;> with_reducible rfl))); (· (intro W hW; exact ((hW.setCell hb1_9 _).setCell hb1_9 _))); (· exact ((hk.set_ 0 (.int .u64 (hiOf V))).set_ 1 (.int .u64 (loOf V)))); (· (intro b' t' cs' hne h; exact ((h.set_far hne 0 _).set_far hne 1 _))))); (try simp only [Act.put, List.setIfInBounds_toArray, List.set_cons_zero, List.set_cons_succ])))); refine stepC_end ?_; intro w9 hI; obtain ⟨hB9, hE, hJ⟩ := hI; obtain ⟨hc9, hf9⟩ := bkeep hB9; have hz9 := hB9.size; (try simp at hz9); have hbk0_9 : Blk w9 b0_9 24 (#[.int .u64 (hiOf V), .int .u64 (loOf V)]) := (hE 0).2; have hbl0_9 := hbk0_9.lt; have hk0_0_9 := hbk0_9.cell 0; have hg0_0_9 := hbk0_9.frozen 0; (try simp at hk0_0_9); have hk0_1_9 := hbk0_9.cell 1; have hg0_1_9 := hbk0_9.frozen 1; (try simp at hk0_1_9); clear hE hJ; (try simp at hb0_9))
              have q2 := ((H2.out.grow hB1).alloc (.cells #[.int .u64 T1, .int .u64 T0] 24)).grow hB9
              have q4 := ((H4.out.grow hB1).alloc (.cells #[.int .u64 T1, .int .u64 T0] 24)).grow hB9
              have c20 := q2.cell 0; have c21 := q2.cell 1; have d20 := q2.frozen 0; have d21 := q2.frozen 1
              have c40 := q4.cell 0; have c41 := q4.cell 1; have d40 := q4.frozen 0; have d41 := q4.frozen 1
              simp at c20 c21 c40 c41
              have Q2 := Lib.hid q2; have Q4 := Lib.hid q4
              clear hc9 hf9 q2 q4
              go_wp2_with fail
              go_roundw
              case rel =>
                have hV := HVV.out
                subst hV
                exact ⟨i + 1, by omega, by go_num, HN.out, (Q2.out.setO (by omega) _ _).setO (by omega) _ _, (Q4.out.set_ 0 _).set_ 1 _, by (repeat' (first | (with_reducible exact Below.refl _ _) | (with_reducible assumption) | (with_reducible refine Below.alloc ?_ ?_ _) | (with_reducible refine Below.drew ?_) | (with_reducible refine drewN_below ?_ _) | (with_reducible refine Below.setCell ?_ ?_ _) | (with_reducible refine below_call (by with_reducible assumption) ?_ ?_) | (first | (with_reducible exact Nat.le_refl _) | (with_reducible assumption) | omega | (simp; done) | (simp; omega))))⟩
              case measure => simp [intOf]; omega
            · have hover : overB ((decVal (l.take i) : Int) * 10 + (c - 48)) = true := by unfold overB; simp; omega
              rw [hover] at HA
              have HV := Lib.hid (parse_bad (hbad (by omega)))
              generalize (decVal (l.take i) : Int) * 10 + (c - 48) = V at *
              have HN := 0; have HVV := 0; have hV := 0; have hV1 := 0; have hnext := 0
              have HC := Lib.hid hc; have H2 := Lib.hid hb2; have H4 := Lib.hid hb4
              generalize hiOf ((decVal (l.take i) : Int) * 10) = T1 at *
              generalize loOf ((decVal (l.take i) : Int) * 10) = T0 at *
              clear HI hbeq hsl hc hnext hover hov hov2 hst hbad hbig hN hN10 htop hn0 hdig hcd hb2 hb4 hV hV1
              go_wp2_with fail
              refine (HT _).mono ?_; rintro e w1 ⟨rfl, hB1⟩; obtain ⟨hc1, hf1⟩ := keep hB1; have hz1 := hB1.size; try simp at hz1
              go_wp2_with fail
              (refine wp_region_cells [(11, 12)] 11 (fun c => match c with | _ => ⟨8, 24, #[.int .u64 0, .int .u64 0], #[.int .u64 (hiOf V), .int .u64 (loOf V)]⟩) (by kernel_rfl) (by kernel_rfl) (by kernel_rfl) ⟨⟨_, rfl, rfl, rfl, ?_⟩, True.intro⟩ ?_; (· (intro a z; go_simp; first | done | (with_reducible rfl) | rfl)); (repeat (first | (refine stepC_val (v := ?_) (by rfl) (by rfl) ?_ ?_; rotate_left; (· (intro z hz; obtain ⟨hc, hf⟩ := keep hz; go_simp; first | done | (with_reducible rfl))); (try simp only [Act.put, List.setIfInBounds_toArray, List.set_cons_zero, List.set_cons_succ])) | (refine stepC_skip (by rfl) (by rfl) ?_; (try simp only [Act.put, List.setIfInBounds_toArray, List.set_cons_zero, List.set_cons_succ])) | (refine stepC_call (v := ?_) (f := ?_) (args := ?_) (by rfl) (by rfl) (by rfl) ?_ ?_ ?_; rotate_left; rotate_left; rotate_left; (· (intro z hz; (go_simp; first | done | (with_reducible rfl) | (constructor <;> with_reducible rfl)))); (· (intro z hz; first | (go_at_call 16; refine (HA _).mono ?_; rintro e w' ⟨rfl, hB⟩; refine ⟨?_, hB⟩; with_reducible rfl))); (try simp only [Act.put, List.setIfInBounds_toArray, List.set_cons_zero, List.set_cons_succ])) | (refine stepC_store (t := 24) (cs0 := #[.int .u64 0, .int .u64 0]) (cs1 := #[.int .u64 (hiOf V), .int .u64 (loOf V)]) (by rfl) (by rfl) ⟨rfl, rfl, rfl⟩ (by rfl) (by rfl) (by rfl) ?_ ?_; (· (intro z hb1_9 hk; have k0 := hk.cell 0; have g0 := hk.frozen 0; (try simp at k0); have k1 := hk.cell 1; have g1 := hk.frozen 1; (try simp at k1); refine ⟨?_, ?_, ?_, ?_, ?_⟩; rotate_left; (· (go_simp; first | done | (with_reducible rfl) | (constructor <;> with_reducible rfl))); (· (intro W hW; exact ((hW.setCell hb1_9 _).setCell hb1_9 _))); (· exact ((hk.set_ 0 (.int .u64 (hiOf V))).set_ 1 (.int .u64 (loOf V)))); (· (intro b' t' cs' hne h; exact ((h.set_far hne 0 _).set_far hne 1 _))))); (try simp only [Act.put, List.setIfInBounds_toArray, List.set_cons_zero, List.set_cons_succ])))); (refine stepC_new (by rfl) (by rfl) (by rfl) ?_; intro b0_9 hb0_9; (try simp only [Act.put, List.setIfInBounds_toArray, List.set_cons_zero, List.set_cons_succ])); (repeat (first | (refine stepC_val (v := ?_) (by rfl) (by rfl) ?_ ?_; rotate_left; (· (intro z hz; obtain ⟨hc, hf⟩ := keep hz; go_simp; first | done | (with_reducible rfl))); (try simp only [Act.put, List.setIfInBounds_toArray, List.set_cons_zero, List.set_cons_succ])) | (refine stepC_skip (by rfl) (by rfl) ?_; (try simp only [Act.put, List.setIfInBounds_toArray, List.set_cons_zero, List.set_cons_succ])) | (refine stepC_call (v := ?_) (f := ?_) (args := ?_) (by rfl) (by rfl) (by rfl) ?_ ?_ ?_; rotate_left; rotate_left; rotate_left; (· (intro z hz; (go_simp; first | done | (with_reducible rfl) | (constructor <;> with_reducible rfl)))); (· (intro z hz; first | (go_at_call 16; refine (HA _).mono ?_; rintro e w' ⟨rfl, hB⟩; refine ⟨?_, hB⟩; with_reducible rfl))); (try simp only [Act.put, List.setIfInBounds_toArray, List.set_cons_zero, List.set_cons_succ])) | (refine stepC_store (t := 24) (cs0 := #[.int .u64 0, .int .u64 0]) (cs1 := #[.int .u64 (hiOf V), .int .u64 (loOf V)]) (by rfl) (by rfl) ⟨rfl, rfl, rfl⟩ (by rfl) (by rfl) (by rfl) ?_ ?_; (· (intro z hb1_9 hk; have k0 := hk.cell 0; have g0 := hk.frozen 0; (try simp at k0); have k1 := hk.cell 1; have g1 := hk.frozen 1; (try simp at k1); refine ⟨?_, ?_, ?_, ?_, ?_⟩; rotate_left; (· (go_simp; first | done | (with_reducible rfl) | (constructor <;> with_reducible rfl))); (· (intro W hW; exact ((hW.setCell hb1_9 _).setCell hb1_9 _))); (· exact ((hk.set_ 0 (.int .u64 (hiOf V))).set_ 1 (.int .u64 (loOf V)))); (· (intro b' t' cs' hne h; exact ((h.set_far hne 0 _).set_far hne 1 _))))); (try simp only [Act.put, List.setIfInBounds_toArray, List.set_cons_zero, List.set_cons_succ])))); refine stepC_end ?_; intro w9 hI; obtain ⟨hB9, hE, hJ⟩ := hI; obtain ⟨hc9, hf9⟩ := bkeep hB9; have hz9 := hB9.size; (try simp at hz9); have hbk0_9 : Blk w9 b0_9 24 (#[.int .u64 (hiOf V), .int .u64 (loOf V)]) := (hE 0).2; have hbl0_9 := hbk0_9.lt; have hk0_0_9 := hbk0_9.cell 0; have hg0_0_9 := hbk0_9.frozen 0; (try simp at hk0_0_9); have hk0_1_9 := hbk0_9.cell 1; have hg0_1_9 := hbk0_9.frozen 1; (try simp at hk0_1_9); clear hE hJ; (try simp at hb0_9))
              have q2 := ((H2.out.grow hB1).alloc (.cells #[.int .u64 T1, .int .u64 T0] 24)).grow hB9
              have q4 := ((H4.out.grow hB1).alloc (.cells #[.int .u64 T1, .int .u64 T0] 24)).grow hB9
              have c20 := q2.cell 0; have c21 := q2.cell 1; have d20 := q2.frozen 0; have d21 := q2.frozen 1
              have c40 := q4.cell 0; have c41 := q4.cell 1; have d40 := q4.frozen 0; have d41 := q4.frozen 1
              simp at c20 c21 c40 c41
              have Q2 := Lib.hid q2; have Q4 := Lib.hid q4
              clear hc9 hf9 q2 q4
              go_wp2
              exact bodyPost_ret (v := .tuple #[.agg #[.int .u64 0, .int .u64 0], .bool false]) (by simp [*, results, Tryd.results29, go_sem]) rfl ⟨by rw [HV.out], by (repeat' (first | (with_reducible exact Below.refl _ _) | (with_reducible assumption) | (with_reducible refine Below.alloc ?_ ?_ _) | (with_reducible refine Below.drew ?_) | (with_reducible refine drewN_below ?_ _) | (with_reducible refine Below.setCell ?_ ?_ _) | (with_reducible refine below_call (by with_reducible assumption) ?_ ?_) | (first | (with_reducible exact Nat.le_refl _) | (with_reducible assumption) | omega | (simp; done) | (simp; omega))))⟩
          · have hover := 0; have hov2 := 0; have htop := 0; have hN10 := 0
            have htp : 0 < topOf ((decVal (l.take i) : Int) * 10) := by unfold topOf; omega
            have htne : (topOf ((decVal (l.take i) : Int) * 10) != 0) = true := bne_iff_ne.2 (by omega)
            have HV := Lib.hid (parse_bad (hbad (by omega)))
            generalize topOf ((decVal (l.take i) : Int) * 10) = top at *
            generalize num (hiOf ((decVal (l.take i) : Int) * 10)) (loOf ((decVal (l.take i) : Int) * 10)) + (c - 48) = V at *
            have HN := 0; have HVV := 0; have hV := 0; have hV1 := 0; have hnext := 0
            have HC := Lib.hid hc; have H2 := Lib.hid hb2; have H4 := Lib.hid hb4
            generalize hiOf ((decVal (l.take i) : Int) * 10) = T1 at *
            generalize loOf ((decVal (l.take i) : Int) * 10) = T0 at *
            clear HI hbeq hsl hc hnext hover hov hov2 hst hbad hbig hN hN10 htop hn0 hdig hcd hb2 hb4 hV hV1
            go_wp2_with fail
            refine (HT _).mono ?_; rintro e w1 ⟨rfl, hB1⟩; obtain ⟨hc1, hf1⟩ := keep hB1; have hz1 := hB1.size; try simp at hz1
            go_wp2_with fail
            (refine wp_region_cells [(11, 12)] 11 (fun c => match c with | _ => ⟨8, 24, #[.int .u64 0, .int .u64 0], #[.int .u64 (hiOf V), .int .u64 (loOf V)]⟩) (by kernel_rfl) (by kernel_rfl) (by kernel_rfl) ⟨⟨_, rfl, rfl, rfl, ?_⟩, True.intro⟩ ?_; (· (intro a z; go_simp; first | done | (with_reducible rfl) | rfl)); (repeat (first | (refine stepC_val (v := ?_) (by rfl) (by rfl) ?_ ?_; rotate_left; (· (intro z hz; obtain ⟨hc, hf⟩ := keep hz; go_simp; first | done | (with_reducible rfl))); (try simp only [Act.put, List.setIfInBounds_toArray, List.set_cons_zero, List.set_cons_succ])) | (refine stepC_skip (by rfl) (by rfl) ?_; (try simp only [Act.put, List.setIfInBounds_toArray, List.set_cons_zero, List.set_cons_succ])) | (refine stepC_call (v := ?_) (f := ?_) (args := ?_) (by rfl) (by rfl) (by rfl) ?_ ?_ ?_; rotate_left; rotate_left; rotate_left; (· (intro z hz; (go_simp; first | done | (with_reducible rfl) | (constructor <;> with_reducible rfl)))); (· (intro z hz; first | (go_at_call 16; refine (HA _).mono ?_; rintro e w' ⟨rfl, hB⟩; refine ⟨?_, hB⟩; with_reducible rfl))); (try simp only [Act.put, List.setIfInBounds_toArray, List.set_cons_zero, List.set_cons_succ])) | (refine stepC_store (t := 24) (cs0 := #[.int .u64 0, .int .u64 0]) (cs1 := #[.int .u64 (hiOf V), .int .u64 (loOf V)]) (by rfl) (by rfl) ⟨rfl, rfl, rfl⟩ (by rfl) (by rfl) (by rfl) ?_ ?_; (· (intro z hb1_9 hk; have k0 := hk.cell 0; have g0 := hk.frozen 0; (try simp at k0); have k1 := hk.cell 1; have g1 := hk.frozen 1; (try simp at k1); refine ⟨?_, ?_, ?_, ?_, ?_⟩; rotate_left; (· (go_simp; first | done | (with_reducible rfl) | (constructor <;> with_reducible rfl))); (· (intro W hW; exact ((hW.setCell hb1_9 _).setCell hb1_9 _))); (· exact ((hk.set_ 0 (.int .u64 (hiOf V))).set_ 1 (.int .u64 (loOf V)))); (· (intro b' t' cs' hne h; exact ((h.set_far hne 0 _).set_far hne 1 _))))); (try simp only [Act.put, List.setIfInBounds_toArray, List.set_cons_zero, List.set_cons_succ])))); (refine stepC_new (by rfl) (by rfl) (by rfl) ?_; intro b0_9 hb0_9; (try simp only [Act.put, List.setIfInBounds_toArray, List.set_cons_zero, List.set_cons_succ])); (repeat (first | (refine stepC_val (v := ?_) (by rfl) (by rfl) ?_ ?_; rotate_left; (· (intro z hz; obtain ⟨hc, hf⟩ := keep hz; go_simp; first | done | (with_reducible rfl))); (try simp only [Act.put, List.setIfInBounds_toArray, List.set_cons_zero, List.set_cons_succ])) | (refine stepC_skip (by rfl) (by rfl) ?_; (try simp only [Act.put, List.setIfInBounds_toArray, List.set_cons_zero, List.set_cons_succ])) | (refine stepC_call (v := ?_) (f := ?_) (args := ?_) (by rfl) (by rfl) (by rfl) ?_ ?_ ?_; rotate_left; rotate_left; rotate_left; (· (intro z hz; (go_simp; first | done | (with_reducible rfl) | (constructor <;> with_reducible rfl)))); (· (intro z hz; first | (go_at_call 16; refine (HA _).mono ?_; rintro e w' ⟨rfl, hB⟩; refine ⟨?_, hB⟩; with_reducible rfl))); (try simp only [Act.put, List.setIfInBounds_toArray, List.set_cons_zero, List.set_cons_succ])) | (refine stepC_store (t := 24) (cs0 := #[.int .u64 0, .int .u64 0]) (cs1 := #[.int .u64 (hiOf V), .int .u64 (loOf V)]) (by rfl) (by rfl) ⟨rfl, rfl, rfl⟩ (by rfl) (by rfl) (by rfl) ?_ ?_; (· (intro z hb1_9 hk; have k0 := hk.cell 0; have g0 := hk.frozen 0; (try simp at k0); have k1 := hk.cell 1; have g1 := hk.frozen 1; (try simp at k1); refine ⟨?_, ?_, ?_, ?_, ?_⟩; rotate_left; (· (go_simp; first | done | (with_reducible rfl) | (constructor <;> with_reducible rfl))); (· (intro W hW; exact ((hW.setCell hb1_9 _).setCell hb1_9 _))); (· exact ((hk.set_ 0 (.int .u64 (hiOf V))).set_ 1 (.int .u64 (loOf V)))); (· (intro b' t' cs' hne h; exact ((h.set_far hne 0 _).set_far hne 1 _))))); (try simp only [Act.put, List.setIfInBounds_toArray, List.set_cons_zero, List.set_cons_succ])))); refine stepC_end ?_; intro w9 hI; obtain ⟨hB9, hE, hJ⟩ := hI; obtain ⟨hc9, hf9⟩ := bkeep hB9; have hz9 := hB9.size; (try simp at hz9); have hbk0_9 : Blk w9 b0_9 24 (#[.int .u64 (hiOf V), .int .u64 (loOf V)]) := (hE 0).2; have hbl0_9 := hbk0_9.lt; have hk0_0_9 := hbk0_9.cell 0; have hg0_0_9 := hbk0_9.frozen 0; (try simp at hk0_0_9); have hk0_1_9 := hbk0_9.cell 1; have hg0_1_9 := hbk0_9.frozen 1; (try simp at hk0_1_9); clear hE hJ; (try simp at hb0_9))
            have q2 := ((H2.out.grow hB1).alloc (.cells #[.int .u64 T1, .int .u64 T0] 24)).grow hB9
            have q4 := ((H4.out.grow hB1).alloc (.cells #[.int .u64 T1, .int .u64 T0] 24)).grow hB9
            have c20 := q2.cell 0; have c21 := q2.cell 1; have d20 := q2.frozen 0; have d21 := q2.frozen 1
            have c40 := q4.cell 0; have c41 := q4.cell 1; have d40 := q4.frozen 0; have d41 := q4.frozen 1
            simp at c20 c21 c40 c41
            have Q2 := Lib.hid q2; have Q4 := Lib.hid q4
            clear hc9 hf9 q2 q4
            go_wp2
            exact bodyPost_ret (v := .tuple #[.agg #[.int .u64 0, .int .u64 0], .bool false]) (by simp [*, results, Tryd.results29, go_sem]) rfl ⟨by rw [HV.out], by (repeat' (first | (with_reducible exact Below.refl _ _) | (with_reducible assumption) | (with_reducible refine Below.alloc ?_ ?_ _) | (with_reducible refine Below.drew ?_) | (with_reducible refine drewN_below ?_ _) | (with_reducible refine Below.setCell ?_ ?_ _) | (with_reducible refine below_call (by with_reducible assumption) ?_ ?_) | (first | (with_reducible exact Nat.le_refl _) | (with_reducible assumption) | omega | (simp; done) | (simp; omega))))⟩
        · have HV := Lib.hid (parse_bad (bad_digit hlt hdig))
          have hdig' : ((l.getD i 0).toNat : Int) < 48 ∨ (¬ ((l.getD i 0).toNat : Int) < 48 ∧ (57 : Int) < ((l.getD i 0).toNat : Int)) := by omega
          generalize ((l.getD i 0).toNat : Int) = c at *
          clear HI hbeq hsl hst hdig hN
          rcases hdig' with hd | ⟨hd0, hd1⟩
          · go_wp2
            exact bodyPost_ret (v := .tuple #[.agg #[.int .u64 0, .int .u64 0], .bool false]) (by simp [*, results, Tryd.results29, go_sem]) rfl ⟨by rw [HV.out], by (repeat' (first | (with_reducible exact Below.refl _ _) | (with_reducible assumption) | (with_reducible refine Below.alloc ?_ ?_ _) | (with_reducible refine Below.drew ?_) | (with_reducible refine drewN_below ?_ _) | (with_reducible refine Below.setCell ?_ ?_ _) | (with_reducible refine below_call (by with_reducible assumption) ?_ ?_) | (first | (with_reducible exact Nat.le_refl _) | (with_reducible assumption) | omega | (simp; done) | (simp; omega))))⟩
          · go_wp2
            exact bodyPost_ret (v := .tuple #[.agg #[.int .u64 0, .int .u64 0], .bool false]) (by simp [*, results, Tryd.results29, go_sem]) rfl ⟨by rw [HV.out], by (repeat' (first | (with_reducible exact Below.refl _ _) | (with_reducible assumption) | (with_reducible refine Below.alloc ?_ ?_ _) | (with_reducible refine Below.drew ?_) | (with_reducible refine drewN_below ?_ _) | (with_reducible refine Below.setCell ?_ ?_ _) | (with_reducible refine below_call (by with_reducible assumption) ?_ ?_) | (first | (with_reducible exact Nat.le_refl _) | (with_reducible assumption) | omega | (simp; done) | (simp; omega))))⟩
      · have hil : l.take i = l := List.take_of_length_le (by omega)
        rw [hil] at hbig hN k40 k41 hb4
        have HX := fun w ht => text_any (hiOf (decVal l)) (loOf (decVal l)) (hiOf_word _) (loOf_word _) w ht
        rw [num_hl hN] at HX
        have hq : ((numeral (decVal l)).toList == s.toList) = okL l := by
          rw [hbeq, okL_end hbig, decide_eq_decide]
          have := hsl (decVal l)
          rwa [Int.toNat_natCast] at this
        cases hok : okL l with
        | true =>
          rw [hok] at hq
          have HV := Lib.hid (parse_good hok)
          clear HI hbeq hsl hil hok hbig hN
          generalize numeral (decVal l) = u at *
          go_wp2_with fail
          refine (HX _ hTw).mono ?_; rintro e w1 ⟨rfl, hB1⟩; obtain ⟨hc1, hf1⟩ := keep hB1; have hz1 := hB1.size; try simp at hz1
          go_wp2
          exact bodyPost_ret (v := .tuple #[.agg #[.int .u64 (hiOf (decVal l)), .int .u64 (loOf (decVal l))], .bool true]) (by simp [*, results, Tryd.results29, go_sem]) rfl ⟨by rw [HV.out], by (repeat' (first | (with_reducible exact Below.refl _ _) | (with_reducible assumption) | (with_reducible refine Below.alloc ?_ ?_ _) | (with_reducible refine Below.drew ?_) | (with_reducible refine drewN_below ?_ _) | (with_reducible refine Below.setCell ?_ ?_ _) | (with_reducible refine below_call (by with_reducible assumption) ?_ ?_) | (first | (with_reducible exact Nat.le_refl _) | (with_reducible assumption) | omega | (simp; done) | (simp; omega))))⟩
        | false =>
          rw [hok] at hq
          have HV := Lib.hid (parse_bad hok)
          clear HI hbeq hsl hil hok hbig hN
          generalize numeral (decVal l) = u at *
          go_wp2_with fail
          refine (HX _ hTw).mono ?_; rintro e w1 ⟨rfl, hB1⟩; obtain ⟨hc1, hf1⟩ := keep hB1; have hz1 := hB1.size; try simp at hz1
          go_wp2
          exact bodyPost_ret (v := .tuple #[.agg #[.int .u64 0, .int .u64 0], .bool false]) (by simp [*, results, Tryd.results29, go_sem]) rfl ⟨by rw [HV.out], by (repeat' (first | (with_reducible exact Below.refl _ _) | (with_reducible assumption) | (with_reducible refine Below.alloc ?_ ?_ _) | (with_reducible refine Below.drew ?_) | (with_reducible refine drewN_below ?_ _) | (with_reducible refine Below.setCell ?_ ?_ _) | (with_reducible refine below_call (by with_reducible assumption) ?_ ?_) | (first | (with_reducible exact Nat.le_refl _) | (with_reducible assumption) | omega | (simp; done) | (simp; omega))))⟩
end Go.Proofs.YtpmnghobcciiaaaDoor
