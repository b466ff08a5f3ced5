/- pergolaref1: Text is the decimal numeral. -/
import Derived.Test.YthamagnlpndnoaaDoorAppend
import Derived.Test.YthamagnlpndnoaaDoorTextMath
import Derived.Test.YthamagnlpndnoaaDoorDiv2
import Derived.Test.YthamagnlpndnoaaDoorRef1A
import Derived.Lib.UnsafeStr
namespace Go.Proofs.YthamagnlpndnoaaDoor
open Go.RowKit

def lenOf : Value → Nat
  | .slice _ n _ => n
  | _ => 0
theorem info_u8 : (Tryd.prog.info? 5).map (fun i => (i.zero, i.size, i.bytes)) = some (some (.int .u8 0), 1, 1) := by kernel_rfl
theorem lenOf_own {w : World} {B : Nat} {e : TypeId} {v : Value} {m : Nat} {xs : List Value} (h : w.ownsRow B e 1 v m xs) : lenOf v = m := by
  rcases h.2 with ⟨rfl, rfl⟩ | ⟨g, cap, cur, rfl, _⟩ <;> rfl
theorem one_own (W : World) (B H : Nat) (hH : H = W.heap.size) (hB : B ≤ H) (x : Value) (t : TypeId) : (W.alloc (.cells #[x] t)).ownsRow B t 1 (.slice (some ⟨H, 0, none⟩) 1 1) 1 [x] := by
  subst hH; exact World.ownsRow_lit W #[x] 1 hB (by unfold maxLen; omega) rfl
theorem digit_cell {r : Int} (h0 : 0 ≤ r) (h1 : r < 10) : (Value.int .u8 (48 + r)) :: [] = Lib.byteCells [UInt8.ofNat (48 + r.toNat)] := by
  unfold Lib.byteCells
  simp
  omega

set_option maxHeartbeats 8000000 in
theorem rtextU_any (h l : Int) (h1 : Word h) (h2 : Word l) (w : World) :
    Calls Tryd.prog 41 #[.agg #[.int .u64 h, .int .u64 l]] w fun e w' => e = .returned (.string ⟨(Lib.decDigits (num h l).toNat).toArray⟩) ∧ Below w.heap.size w w' := by
  have hN := num_big h1 h2
  have e1 := hiOf_num h1 h2
  have e2 := loOf_num (h := h) h2
  generalize num h l = N at *
  subst e1; subst e2
  have hlen : (Lib.decDigits N.toNat).length ≤ 39 := dec_len 39 _ (by omega) (by unfold Big at hN; omega)
  clear h1 h2
  go_enter Tryd.func41, Tryd.ntmps41
  go_wp2
  go_loopw [3] (fun t wr => ∃ (q : Int) (ds : List UInt8), Big q ∧ Lib.decDigits N.toNat = Lib.decDigits q.toNat ++ ds ∧ wr.ownsRow (w.heap.size + 1) 5 1 t ds.length (Lib.byteCells ds) ∧ Blk wr w.heap.size 35 #[.int .u64 (hiOf q), .int .u64 (loOf q)] ∧ Below w.heap.size w wr) (fun t _ => 40 - lenOf t)
  case atStart =>
    exact ⟨N, [], hN, by simp, World.ownsRow_nil _ _ _ _, Blk.new' _ _ (by first | rfl | simp), by (repeat' (first | (with_reducible exact Below.refl _ _) | (with_reducible assumption) | (with_reducible refine Below.alloc ?_ ?_ _) | (with_reducible refine Below.drew ?_) | (with_reducible refine drewN_below ?_ _) | (with_reducible refine Below.setCell ?_ ?_ _) | (with_reducible refine below_call (by with_reducible assumption) ?_ ?_) | (first | (with_reducible exact Nat.le_refl _) | (with_reducible assumption) | omega | (simp; done) | (simp; omega))))⟩
  case round =>
    obtain ⟨q, ds, hq, hd, hown, hblk, hB⟩ := hrel
    have hlo := lenOf_own hown
    have hzz := hB.size
    have hdl : ds.length ≤ 38 := by
      have := congrArg List.length hd
      have := dec_pos q.toNat
      simp at *; omega
    have k0 := hblk.cell 0
    have k1 := hblk.cell 1
    have g0 := hblk.frozen 0
    have g1 := hblk.frozen 1
    simp at k0 k1
    have HD := fun w => div_any (hiOf q) (loOf q) 10 (hiOf_word _) (loOf_word _) (by unfold Word; omega) (by omega) w
    rw [num_hl hq] at HD
    have hr0 : 0 ≤ q % 10 := by omega
    have hr1 : q % 10 < 10 := by omega
    have hq' : Big (q / 10) := by unfold Big at *; omega
    have hstep : Lib.decDigits q.toNat = (if q / 10 = 0 then [] else Lib.decDigits (q / 10).toNat) ++ [UInt8.ofNat (48 + (q % 10).toNat)] := by
      unfold Big at hq
      by_cases h : q < 10
      · rw [if_pos (by omega), dec_small (by omega)]
        congr 2
        omega
      · rw [if_neg (by omega), dec_big (by omega)]
        congr 3 <;> omega
    have hxc := digit_cell hr0 hr1
    generalize q % 10 = r at *
    have hw8 : IntKind.u8.wrap (48 + r) = 48 + r := by rw [IntKind.wrap_u8]; omega
    have hw64 : IntKind.u64.wrap (48 + r) = 48 + r := by rw [IntKind.wrap_u64]; omega
    have HO := Lib.hid hown; have HK := Lib.hid hblk; have HX := Lib.hid hxc; have HDD := Lib.hid hd
    clear hown hblk hxc hd
    generalize hQ1 : hiOf (q / 10) = Q1 at *
    generalize hQ0 : loOf (q / 10) = Q0 at *
    by_cases hz : q / 10 = 0
    · have heq : eq2 Q1 Q0 0 0 = true := by rw [← hQ1, ← hQ0, hz]; rfl
      rw [if_pos hz, List.nil_append] at hstep
      have HS := Lib.hid hstep
      clear hstep hQ1 hQ0
      go_wp2_with fail
      refine (HD _).mono ?_; rintro e w1 ⟨rfl, hB1⟩; obtain ⟨hc1, hf1⟩ := keep hB1; have hz1 := hB1.size; try simp at hz1
      go_wp2_with (at_builtin; refine wpList_append_run _ (Joined (w.heap.size + 1) _ 5 (1 + ds.length) (.int .u8 (48 + r) :: Lib.byteCells ds)) rfl (.tmp 14) (.tmp 15) 91 rfl _ _ rfl rfl (run_append_front _ 91 _ 5 (.int .u8 0) 1 (w.heap.size + 1) _ ds.length (.int .u8 (48 + r)) _ (Lib.byteCells ds) Tryd.underlying91 info_u8 rfl (one_own _ _ _ (by first | rfl | simp) (by first | omega | (simp; omega)) _ _) (((ownsRow_below HO.out hB1).alloc _).alloc _) (by omega) (by omega)) ?_; rintro v' w2 ⟨hown2, hB2⟩; refine Hid.out ?_)
      refine Lib.hid ?_
      obtain ⟨hc2, hf2⟩ := keep hB2
      have hz2 := hB2.size
      try simp at hz2
      obtain ⟨g, cap, rfl, hbg, hgl⟩ := hown2.form (by omega)
      have hsz : 1 + ds.length = (UInt8.ofNat (48 + r.toNat) :: ds).length := by simp; omega
      have hcs : (Value.int .u8 (48 + r)) :: Lib.byteCells ds = Lib.byteCells (UInt8.ofNat (48 + r.toNat) :: ds) := by
        have := HX.out
        simp only [Lib.byteCells, List.map_cons, List.map_nil] at this ⊢
        injection this with h1 h2
        rw [h1]
      rw [hcs] at hown2
      have hfin : Lib.decDigits N.toNat = UInt8.ofNat (48 + r.toNat) :: ds := by rw [HDD.out, HS.out]; rfl
      have hcv : (convert 91 9 (.slice (some ⟨g, 0, none⟩) (1 + ds.length) cap)).run Tryd.prog ((w2.setCell ⟨w.heap.size, 0, none⟩ (.int .u64 Q1)).setCell ⟨w.heap.size, 1, none⟩ (.int .u64 Q0)) = .ok (.string ⟨(Lib.decDigits N.toNat).toArray⟩) ((w2.setCell ⟨w.heap.size, 0, none⟩ (.int .u64 Q1)).setCell ⟨w.heap.size, 1, none⟩ (.int .u64 Q0)) := by
        have h := run_convert_bytes_back (P := Tryd.prog) ((w2.setCell ⟨w.heap.size, 0, none⟩ (.int .u64 Q1)).setCell ⟨w.heap.size, 1, none⟩ (.int .u64 Q0)) 91 9 5 ⟨g, 0, none⟩ cap (Lib.decDigits N.toNat) Tryd.underlying91 Tryd.underlying5 Tryd.underlying9 (fun j hj => by
          have hadd : (⟨g, 0, none⟩ : Addr).add j = ⟨g, j, none⟩ := by unfold Addr.add; split <;> simp_all
          rw [hadd, World.cell?_setCell_other _ _ _ _ (by first | (simp; done) | (simp; omega)), World.cell?_setCell_other _ _ _ _ (by first | (simp; done) | (simp; omega))]
          have hl : j < 1 + ds.length := by rw [hsz, ← hfin]; exact hj
          rw [hown2.cellAt j (by omega)]
          have e : (Lib.decDigits N.toNat)[j] = (UInt8.ofNat (48 + r.toNat) :: ds)[j]'(by rw [← hfin]; exact hj) := by congr 1
          rw [e]
          unfold Lib.byteCells
          rw [List.getElem?_map, List.getElem?_eq_getElem (by rw [← hfin]; exact hj)]
          rfl)
        rw [hfin, List.length_cons, Nat.add_comm] at h
        rw [hfin]
        exact h
      have HF := Lib.hid hfin; have HOO := Lib.hid hown2; have HCS := Lib.hid hcs; have HSZ := Lib.hid hsz
      clear hfin hown2 hcs hsz
      go_wp2
      go_ret
      exact ⟨rfl, by (repeat' (first | (with_reducible exact Below.refl _ _) | (with_reducible assumption) | (with_reducible refine Below.alloc ?_ ?_ _) | (with_reducible refine Below.drew ?_) | (with_reducible refine drewN_below ?_ _) | (with_reducible refine Below.setCell ?_ ?_ _) | (with_reducible refine below_call (by with_reducible assumption) ?_ ?_) | (first | (with_reducible exact Nat.le_refl _) | (with_reducible assumption) | omega | (simp; done) | (simp; omega))))⟩
    · have hqp : 0 < q / 10 := by unfold Big at hq'; omega
      have heq : eq2 Q1 Q0 0 0 = false := by
        rw [← hQ1, ← hQ0]
        have := num_hl hq'
        unfold eq2
        rw [Bool.and_eq_false_iff, decide_eq_false_iff_not, decide_eq_false_iff_not]
        unfold num at this
        omega
      rw [if_neg hz] at hstep
      have HS := Lib.hid hstep; have H1 := Lib.hid hQ1; have H0 := Lib.hid hQ0
      clear hstep hQ1 hQ0
      go_wp2_with fail
      refine (HD _).mono ?_; rintro e w1 ⟨rfl, hB1⟩; obtain ⟨hc1, hf1⟩ := keep hB1; have hz1 := hB1.size; try simp at hz1
      go_wp2_with (at_builtin; refine wpList_append_run _ (Joined (w.heap.size + 1) _ 5 (1 + ds.length) (.int .u8 (48 + r) :: Lib.byteCells ds)) rfl (.tmp 14) (.tmp 15) 91 rfl _ _ rfl rfl (run_append_front _ 91 _ 5 (.int .u8 0) 1 (w.heap.size + 1) _ ds.length (.int .u8 (48 + r)) _ (Lib.byteCells ds) Tryd.underlying91 info_u8 rfl (one_own _ _ _ (by first | rfl | simp) (by first | omega | (simp; omega)) _ _) (((ownsRow_below HO.out hB1).alloc _).alloc _) (by omega) (by omega)) ?_; rintro v' w2 ⟨hown2, hB2⟩; refine Hid.out ?_)
      refine Lib.hid ?_
      obtain ⟨hc2, hf2⟩ := keep hB2
      have hz2 := hB2.size
      try simp at hz2
      obtain ⟨g, cap, rfl, hbg, hgl⟩ := hown2.form (by omega)
      have hsz : 1 + ds.length = (UInt8.ofNat (48 + r.toNat) :: ds).length := by simp; omega
      have hcs : (Value.int .u8 (48 + r)) :: Lib.byteCells ds = Lib.byteCells (UInt8.ofNat (48 + r.toNat) :: ds) := by
        have := HX.out
        simp only [Lib.byteCells, List.map_cons, List.map_nil] at this ⊢
        injection this with h1 h2
        rw [h1]
      rw [hcs] at hown2
      have hnew : Lib.decDigits N.toNat = Lib.decDigits (q / 10).toNat ++ (UInt8.ofNat (48 + r.toNat) :: ds) := by rw [HDD.out, HS.out, List.append_assoc]; rfl
      have hnb : Blk w2 w.heap.size 35 #[.int .u64 (hiOf q), .int .u64 (loOf q)] := blk_grow (((blk_grow HK.out hB1).alloc _).alloc _) hB2
      have HF := Lib.hid hnew; have HOO := Lib.hid hown2; have HCS := Lib.hid hcs; have HSZ := Lib.hid hsz; have HNB := Lib.hid hnb
      clear hnew hown2 hcs hsz hnb
      go_wp2
      go_roundw
      case rel =>
        refine ⟨q / 10, UInt8.ofNat (48 + r.toNat) :: ds, hq', HF.out, ?_, ?_, by (repeat' (first | (with_reducible exact Below.refl _ _) | (with_reducible assumption) | (with_reducible refine Below.alloc ?_ ?_ _) | (with_reducible refine Below.drew ?_) | (with_reducible refine drewN_below ?_ _) | (with_reducible refine Below.setCell ?_ ?_ _) | (with_reducible refine below_call (by with_reducible assumption) ?_ ?_) | (first | (with_reducible exact Nat.le_refl _) | (with_reducible assumption) | omega | (simp; done) | (simp; omega))))⟩
        · have h := HOO.out
          rw [← HSZ.out]
          exact ownsRow_setCell_below (ownsRow_setCell_below h (by simp) _) (by simp) _
        · rw [H1.out, H0.out]
          exact (HNB.out.set_ 0 _).set_ 1 _
      case measure => simp [lenOf] at *; omega
end Go.Proofs.YthamagnlpndnoaaDoor
