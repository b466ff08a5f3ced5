/- plane: far, may, CheckBox, boxes. -/
import Derived.Test.YtocpdphchignpaaBase
namespace Go.Proofs.Ytocpdphchignpaa
open Go.RowKit

def farB (n : Int) : Bool := decide (n < -1073741823) || decide (1073741823 < n)

set_option maxHeartbeats 400000 in
theorem far_any (n : Int) (w : World) :
    Calls Try.prog 61 #[.int .i64 n] w fun e w' => e = .returned (.bool (farB n)) ∧ w = w' := by
  by_cases h1 : n < -1073741823
  · have h2 : farB n = true := by simp [farB, h1]
    rw [h2]
    go_enter Try.func61, Try.ntmps61
    go_wp2
    go_ret
    exact ⟨rfl, rfl⟩
  · by_cases h3 : 1073741823 < n
    · have h2 : farB n = true := by simp [farB, h3]
      rw [h2]
      go_enter Try.func61, Try.ntmps61
      go_wp2
      go_ret
      exact ⟨rfl, rfl⟩
    · have h2 : farB n = false := by simp [farB]; omega
      rw [h2]
      go_enter Try.func61, Try.ntmps61
      go_wp2
      go_ret
      exact ⟨rfl, rfl⟩

def okB (p : Int × Int) : Bool := !farB p.1 && !farB p.2
theorem okB_iff (x y : Int) : okB (x, y) = true ↔ (-1073741823 ≤ x ∧ x ≤ 1073741823) ∧ (-1073741823 ≤ y ∧ y ≤ 1073741823) := by
  simp [okB, farB]
/-- The points stand in block b, one behind the other. -/
def PtsAt (w : World) (b : Nat) (ps : List (Int × Int)) : Prop :=
  ∀ i, i < ps.length → w.cell? ⟨b, i * 2, none⟩ = some (.int .i64 (ps.getD i (0, 0)).1) ∧ w.cell? ⟨b, i * 2 + 1, none⟩ = some (.int .i64 (ps.getD i (0, 0)).2)

theorem all_take_snoc {α : Type} (f : α → Bool) (d : α) (ps : List α) (k : Nat) (h : k < ps.length) : (ps.take (k + 1)).all f = ((ps.take k).all f && f (ps.getD k d)) := by
  rw [List.take_succ_eq_append_getElem h, List.all_append, List.getD_eq_getElem?_getD, List.getElem?_eq_getElem h]; simp
theorem all_of_bad {α : Type} (f : α → Bool) (d : α) (ps : List α) (k : Nat) (h : k < ps.length) (hb : f (ps.getD k d) = false) : ps.all f = false := by
  rw [List.all_eq_false]; refine ⟨ps[k], List.getElem_mem h, ?_⟩
  rw [List.getD_eq_getElem?_getD, List.getElem?_eq_getElem h] at hb; simpa using hb

set_option maxHeartbeats 400000 in
theorem may_any (b n : Nat) (ps : List (Int × Int)) (w : World) (hn : ps.length ≤ n) (hn' : n ≤ ps.length) (hm : n ≤ 1000000) (hb : b < w.heap.size) (hp : PtsAt w b ps) :
    Calls Try.prog 48 #[.slice (some ⟨b, 0, none⟩) n n] w fun e w' => e = .returned (.bool (ps.all okB)) ∧ Below w.heap.size w w' := by
  go_enter Try.func48, Try.ntmps48
  go_wp2
  go_loopw [7] (fun t wr => ∃ k : Nat, k ≤ n ∧ t = .int .i64 k ∧ (ps.take k).all okB = true ∧ Below w.heap.size w wr) (fun t _ => n - (intOf t).toNat)
  case atStart => exact ⟨0, Nat.zero_le _, rfl, by simp, Below.refl _ _⟩
  case round =>
    obtain ⟨k, hk, rfl, ha, hB⟩ := hrel
    by_cases hlt : k < n
    · obtain ⟨hx, hy⟩ := hp k (by omega)
      rw [← hB.cell (p := ⟨b, k * 2, none⟩) hb] at hx
      rw [← hB.cell (p := ⟨b, k * 2 + 1, none⟩) hb] at hy
      have hs := all_take_snoc okB (0, 0) ps k (by omega)
      have hbad := all_of_bad okB (0, 0) ps k (by omega)
      generalize ps.getD k (0, 0) = p at hx hy hs hbad
      obtain ⟨x, y⟩ := p
      dsimp only at hx hy
      have HS := Lib.hid hs; have HB := Lib.hid hbad; have HA := Lib.hid ha
      clear hs hbad ha hp
      cases hfx : farB x <;> cases hfy : farB y
      · go_wp2_with (go_at_call 61; refine (far_any _ _).mono ?_; rintro e w' ⟨rfl, rfl⟩)
        go_roundw
        case rel => exact ⟨k + 1, by omega, by go_num, by rw [HS.out, HA.out]; simp [okB, hfx, hfy], (hB.alloc hB.size _)⟩
        case measure => simp [intOf]; omega
      all_goals
        go_wp2_with (go_at_call 61; refine (far_any _ _).mono ?_; rintro e w' ⟨rfl, rfl⟩)
        go_ret
        exact ⟨by rw [HB.out (by simp [okB, hfx, hfy])]; rfl, (hB.alloc hB.size _)⟩
    · go_wp2
      go_ret
      refine ⟨?_, hB⟩
      have hkn : k = n := by omega
      subst hkn
      rw [List.take_of_length_le (by omega)] at ha
      rw [ha]; rfl

def ok2 (a b : Int × Int) : Bool := okB a && okB b
def ok3 (a b c : Int × Int) : Bool := okB a && (okB b && okB c)
theorem ok2_iff (a b : Int × Int) : ok2 a b = true ↔ okB a = true ∧ okB b = true := by
  simp [ok2]
theorem ok3_iff (a b c : Int × Int) : ok3 a b c = true ↔ okB a = true ∧ okB b = true ∧ okB c = true := by
  simp [ok3]

theorem may1 (W : World) (b : Nat) (hb : b = W.heap.size) (t : TypeId) (a1 a2 : Int) :
    Calls Try.prog 48 #[.slice (some ⟨b, 0, none⟩) 1 1] (W.alloc (.cells #[.int .i64 a1, .int .i64 a2] t)) fun e w' => e = .returned (.bool (okB (a1, a2))) ∧ Below (W.alloc (.cells #[.int .i64 a1, .int .i64 a2] t)).heap.size (W.alloc (.cells #[.int .i64 a1, .int .i64 a2] t)) w' :=
  (may_any b 1 [(a1, a2)] _ (by simp) (by simp) (by simp) (by simp [hb]) (by subst hb; intro i hi; match i, hi with | 0, _ => simp)).mono fun e w' ⟨he, hB⟩ =>
    ⟨by rw [he]; simp, hB⟩
theorem may2 (W : World) (b : Nat) (hb : b = W.heap.size) (t : TypeId) (a1 a2 b1 b2 : Int) :
    Calls Try.prog 48 #[.slice (some ⟨b, 0, none⟩) 2 2] (W.alloc (.cells #[.int .i64 a1, .int .i64 a2, .int .i64 b1, .int .i64 b2] t)) fun e w' => e = .returned (.bool (ok2 (a1, a2) (b1, b2))) ∧ Below (W.alloc (.cells #[.int .i64 a1, .int .i64 a2, .int .i64 b1, .int .i64 b2] t)).heap.size (W.alloc (.cells #[.int .i64 a1, .int .i64 a2, .int .i64 b1, .int .i64 b2] t)) w' :=
  (may_any b 2 [(a1, a2), (b1, b2)] _ (by simp) (by simp) (by simp) (by simp [hb]) (by subst hb; intro i hi; match i, hi with | 0, _ => simp | 1, _ => simp)).mono fun e w' ⟨he, hB⟩ =>
    ⟨by rw [he]; simp [ok2], hB⟩
theorem may3 (W : World) (b : Nat) (hb : b = W.heap.size) (t : TypeId) (a1 a2 b1 b2 c1 c2 : Int) :
    Calls Try.prog 48 #[.slice (some ⟨b, 0, none⟩) 3 3] (W.alloc (.cells #[.int .i64 a1, .int .i64 a2, .int .i64 b1, .int .i64 b2, .int .i64 c1, .int .i64 c2] t)) fun e w' => e = .returned (.bool (ok3 (a1, a2) (b1, b2) (c1, c2))) ∧ Below (W.alloc (.cells #[.int .i64 a1, .int .i64 a2, .int .i64 b1, .int .i64 b2, .int .i64 c1, .int .i64 c2] t)).heap.size (W.alloc (.cells #[.int .i64 a1, .int .i64 a2, .int .i64 b1, .int .i64 b2, .int .i64 c1, .int .i64 c2] t)) w' :=
  (may_any b 3 [(a1, a2), (b1, b2), (c1, c2)] _ (by simp) (by simp) (by simp) (by simp [hb]) (by subst hb; intro i hi; match i, hi with | 0, _ => simp | 1, _ => simp | 2, _ => simp)).mono fun e w' ⟨he, hB⟩ =>
    ⟨by rw [he]; simp [ok3], hB⟩
end Go.Proofs.Ytocpdphchignpaa
