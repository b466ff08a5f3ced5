/- Package cmp: Compare and Or at int and uint64, as the program calls them. -/
import Derived.Test.YtamhngjhgdmgbaaBase
namespace Go.Proofs.Ytamhngjhgdmgbaa
open Go.RowKit

set_option maxHeartbeats 400000 in
theorem nanU_any (x : Int) (w : World) :
    Calls Try.prog 46 #[.int .u64 x] w fun e w' => e = .returned (.bool false) ∧ w = w' := by
  go_enter Try.func46, Try.ntmps46
  go_wp2
  go_ret
  exact ⟨rfl, rfl⟩
set_option maxHeartbeats 400000 in
theorem nanI_any (x : Int) (w : World) :
    Calls Try.prog 32 #[.int .i64 x] w fun e w' => e = .returned (.bool false) ∧ w = w' := by
  go_enter Try.func32, Try.ntmps32
  go_wp2
  go_ret
  exact ⟨rfl, rfl⟩
set_option maxHeartbeats 400000 in
theorem cmpU_any (x y : Int) (w : World) :
    Calls Try.prog 39 #[.int .u64 x, .int .u64 y] w fun e w' => e = .returned (.int .i64 (cmpV x y)) ∧ w = w' := by
  rcases Int.lt_trichotomy x y with h | h | h
  · have hv : cmpV x y = -1 := by unfold cmpV; rw [if_pos h]
    rw [hv]; clear hv
    go_enter Try.func39, Try.ntmps39
    go_wp2_with (go_at_call 46; refine (nanU_any _ _).mono ?_; rintro e w' ⟨rfl, rfl⟩)
    go_ret
    exact ⟨rfl, rfl⟩
  · have hv : cmpV x y = 0 := by unfold cmpV; rw [if_neg (by omega), if_neg (by omega)]
    rw [hv]; clear hv
    have h1 : ¬ x < y := by omega
    have h2 : ¬ y < x := by omega
    clear h
    go_enter Try.func39, Try.ntmps39
    go_wp2_with (go_at_call 46; refine (nanU_any _ _).mono ?_; rintro e w' ⟨rfl, rfl⟩)
    go_ret
    exact ⟨rfl, rfl⟩
  · have hv : cmpV x y = 1 := by unfold cmpV; rw [if_neg (by omega), if_pos h]
    rw [hv]; clear hv
    have h1 : ¬ x < y := by omega
    go_enter Try.func39, Try.ntmps39
    go_wp2_with (go_at_call 46; refine (nanU_any _ _).mono ?_; rintro e w' ⟨rfl, rfl⟩)
    go_ret
    exact ⟨rfl, rfl⟩
set_option maxHeartbeats 400000 in
theorem cmpI_any (x y : Int) (w : World) :
    Calls Try.prog 26 #[.int .i64 x, .int .i64 y] w fun e w' => e = .returned (.int .i64 (cmpV x y)) ∧ w = w' := by
  rcases Int.lt_trichotomy x y with h | h | h
  · have hv : cmpV x y = -1 := by unfold cmpV; rw [if_pos h]
    rw [hv]; clear hv
    go_enter Try.func26, Try.ntmps26
    go_wp2_with (go_at_call 32; refine (nanI_any _ _).mono ?_; rintro e w' ⟨rfl, rfl⟩)
    go_ret
    exact ⟨rfl, rfl⟩
  · have hv : cmpV x y = 0 := by unfold cmpV; rw [if_neg (by omega), if_neg (by omega)]
    rw [hv]; clear hv
    have h1 : ¬ x < y := by omega
    have h2 : ¬ y < x := by omega
    clear h
    go_enter Try.func26, Try.ntmps26
    go_wp2_with (go_at_call 32; refine (nanI_any _ _).mono ?_; rintro e w' ⟨rfl, rfl⟩)
    go_ret
    exact ⟨rfl, rfl⟩
  · have hv : cmpV x y = 1 := by unfold cmpV; rw [if_neg (by omega), if_pos h]
    rw [hv]; clear hv
    have h1 : ¬ x < y := by omega
    go_enter Try.func26, Try.ntmps26
    go_wp2_with (go_at_call 32; refine (nanI_any _ _).mono ?_; rintro e w' ⟨rfl, rfl⟩)
    go_ret
    exact ⟨rfl, rfl⟩

/-- The first that is not 0. -/
def orV : List Int → Int
  | [] => 0
  | x :: r => if x = 0 then orV r else x
theorem orV_drop {l : List Int} {i : Nat} (h : i < l.length) : orV (l.drop i) = if l.getD i 0 = 0 then orV (l.drop (i + 1)) else l.getD i 0 := by
  rw [List.drop_eq_getElem_cons h, List.getD_eq_getElem?_getD, List.getElem?_eq_getElem h]; rfl
def IntsAt (w : World) (g : Nat) (l : List Int) : Prop := ∀ i, i < l.length → w.cell? ⟨g, i, none⟩ = some (.int .i64 (l.getD i 0))

set_option maxHeartbeats 1000000 in
theorem or_any (g n : Nat) (l : List Int) (w : World) (hn : l.length ≤ n) (hn' : n ≤ l.length) (hm : n ≤ 100) (hp : IntsAt w g l) :
    Calls Try.prog 25 #[.slice (some ⟨g, 0, none⟩) n n] w fun e w' => e = .returned (.int .i64 (orV l)) ∧ w = w' := by
  go_enter Try.func25, Try.ntmps25
  go_wp2
  go_loopw [8] (fun t wr => ∃ i : Nat, i ≤ n ∧ t = .int .i64 i ∧ w = wr ∧ orV (l.drop i) = orV l) (fun t _ => n - (intOf t).toNat)
  case atStart => exact ⟨0, Nat.zero_le _, rfl, rfl, rfl⟩
  case round =>
    obtain ⟨i, hi, rfl, rfl, hv⟩ := hrel
    by_cases hlt : i < n
    · have hc := hp i (by omega)
      have ho := orV_drop (l := l) (i := i) (by omega)
      generalize l.getD i 0 = x at hc ho
      by_cases hx : x = 0
      · rw [if_pos hx] at ho
        subst hx
        have HV := Lib.hid (ho.symm.trans hv); clear hv ho
        go_wp2
        go_roundw
        case rel => exact ⟨i + 1, by omega, by go_num, by trivial, HV.out⟩
        case measure => simp [intOf]; omega
      · rw [if_neg hx] at ho
        have HV := Lib.hid (ho.symm.trans hv); clear hv ho
        have hne : (x != 0) = true := bne_iff_ne.2 hx
        go_wp2
        go_ret
        exact ⟨ret_int HV.out, rfl⟩
    · have hin : l.drop i = [] := List.drop_eq_nil_of_le (by omega)
      rw [hin] at hv
      have HV := Lib.hid hv; clear hv hin
      go_wp2
      go_ret
      exact ⟨ret_int HV.out, rfl⟩
/-- Two, three of them, as a call lays them. -/
theorem or2_any (g : Nat) (x y : Int) (w : World) (h0 : w.cell? ⟨g, 0, none⟩ = some (.int .i64 x)) (h1 : w.cell? ⟨g, 1, none⟩ = some (.int .i64 y)) :
    Calls Try.prog 25 #[.slice (some ⟨g, 0, none⟩) 2 2] w fun e w' => e = .returned (.int .i64 (orV [x, y])) ∧ w = w' :=
  or_any g 2 [x, y] w (Nat.le_refl _) (Nat.le_refl _) (by omega) (fun i hi => by match i, hi with | 0, _ => exact h0 | 1, _ => exact h1)
theorem or3_any (g : Nat) (x y z : Int) (w : World) (h0 : w.cell? ⟨g, 0, none⟩ = some (.int .i64 x)) (h1 : w.cell? ⟨g, 1, none⟩ = some (.int .i64 y)) (h2 : w.cell? ⟨g, 2, none⟩ = some (.int .i64 z)) :
    Calls Try.prog 25 #[.slice (some ⟨g, 0, none⟩) 3 3] w fun e w' => e = .returned (.int .i64 (orV [x, y, z])) ∧ w = w' :=
  or_any g 3 [x, y, z] w (Nat.le_refl _) (Nat.le_refl _) (by omega) (fun i hi => by match i, hi with | 0, _ => exact h0 | 1, _ => exact h1 | 2, _ => exact h2)
end Go.Proofs.Ytamhngjhgdmgbaa
