/- Package wide: Text is the decimal numeral. -/
import Derived.Test.YthamagnlpndnoaaDoorTextMath
import Derived.Test.YthamagnlpndnoaaDoorFmt
import Derived.Test.YthamagnlpndnoaaDoorDiv64
import Derived.Test.YthamagnlpndnoaaDoorWide
import Derived.Deep.QuietTactic
import Derived.BigQuiet
namespace Go.Proofs.YthamagnlpndnoaaDoor
open Go.RowKit

/-- A number's numeral, as a string. -/
def numeral (n : Int) : ByteArray := ⟨(Lib.decDigits n.toNat).toArray⟩
theorem numeral_size (n : Int) : (numeral n).size = (Lib.decDigits n.toNat).length := rfl

set_option maxHeartbeats 1000000 in
theorem text_low (l : Int) (h2 : Word l) (w : World) (htab : Tab w) :
    Calls Tryd.prog 34 #[.agg #[.int .u64 0, .int .u64 l]] w fun e w' => e = .returned (.string (numeral l)) ∧ Below w.heap.size w w' := by
  have HF := fun w htab => fmt_any l h2 w htab
  unfold numeral
  generalize (⟨(Lib.decDigits l.toNat).toArray⟩ : ByteArray) = s at *
  go_enter Tryd.func34, Tryd.ntmps34
  go_wp2_with (go_at_call 35; refine (HF _ (htab.alloc _)).mono ?_; rintro e w' ⟨rfl, hB⟩; obtain ⟨hc, hf⟩ := keep hB; have hz := hB.size; try simp at hz)
  go_ret
  exact ⟨rfl, by (repeat' (first | (with_reducible exact Below.refl _ _) | (with_reducible assumption) | (with_reducible refine Below.alloc ?_ ?_ _) | (with_reducible refine Below.drew ?_) | (with_reducible refine drewN_below ?_ _) | (with_reducible refine Below.setCell ?_ ?_ _) | (with_reducible refine below_call (by with_reducible assumption) ?_ ?_) | (first | (with_reducible exact Nat.le_refl _) | (with_reducible assumption) | omega | (simp; done) | (simp; omega))))⟩

theorem piece_math {h l : Int} (h1 : Word h) (h2 : Word l) (hne : ¬ h = 0) : 1 ≤ num h l / 10000000000000000000 ∧ num h l % 10000000000000000000 < 10000000000000000000 ∧ 0 ≤ num h l % 10000000000000000000 := by
  unfold num Word at *; omega

theorem text_cat {N : Int} (hq : 1 ≤ N / 10000000000000000000) :
    numeral N = numeral (N / 10000000000000000000) ++ (⟨(List.replicate (19 - (Lib.decDigits (N % 10000000000000000000).toNat).length) 48).toArray⟩ : ByteArray) ++ numeral (N % 10000000000000000000) := by
  unfold numeral
  have hN : N.toNat = (N / 10000000000000000000).toNat * 10 ^ 19 + (N % 10000000000000000000).toNat := by omega
  rw [str_append, str_append, hN, dec_split 19 _ _ (by omega) (by omega) (by omega), List.append_assoc]

/-- Two words, as the program's. -/
abbrev U2 (h l : Int) : Value := .agg #[.int .u64 h, .int .u64 l]

set_option maxHeartbeats 4000000 in
theorem text_step (h l : Int) (h1 : Word h) (h2 : Word l) (hne : ¬ h = 0) (w : World) (htab : Tab w)
    (HT : ∀ w, Tab w → Calls Tryd.prog 34 #[U2 (h / 10000000000000000000) (num (h % 10000000000000000000) l / 10000000000000000000)] w fun e w' => e = .returned (.string (numeral (num h l / 10000000000000000000))) ∧ Below w.heap.size w w') :
    Calls Tryd.prog 34 #[.agg #[.int .u64 h, .int .u64 l]] w fun e w' => e = .returned (.string (numeral (num h l))) ∧ Below w.heap.size w w' := by
  obtain ⟨p1, p2, p3⟩ := piece_math h1 h2 hne
  rw [text_cat p1]
  have hl19 := dec_len 19 (num h l % 10000000000000000000).toNat (by omega) (by omega)
  have hdm : num (h % 10000000000000000000) l % 10000000000000000000 = num h l % 10000000000000000000 := by unfold num; omega
  have hrw : Word (h % 10000000000000000000) := by unfold Word at *; omega
  have HD := fun w => div64_any (h % 10000000000000000000) l 10000000000000000000 hrw h2 (by unfold Word; omega) (by omega) w
  rw [hdm] at HD
  have HF := fun w htab => fmt_any (num h l % 10000000000000000000) (by unfold Word; omega) w htab
  have hs : (numeral (num h l % 10000000000000000000)).size = (Lib.decDigits (num h l % 10000000000000000000).toNat).length := rfl
  have HR := fun w => Tryd.strings_Repeat ⟨#[48]⟩ (19 - (Lib.decDigits (num h l % 10000000000000000000).toNat).length) w (by omega) (by rw [show (⟨#[48]⟩ : ByteArray).size = 1 from rfl]; omega)
  rw [show (⟨#[48]⟩ : ByteArray).data.toList = [48] from rfl, repeat_one] at HR
  have hls : (Lib.decDigits (num h l % 10000000000000000000).toNat).length ≤ 19 := hl19
  have hlt : (numeral (num h l / 10000000000000000000)).size ≤ 39 := dec_len 39 _ (by omega) (by unfold num Word at *; omega)
  have hlz : (⟨(List.replicate (19 - (Lib.decDigits (num h l % 10000000000000000000).toNat).length) 48).toArray⟩ : ByteArray).size ≤ 19 := by rw [str_size, List.length_replicate]; omega
  change ∀ w (htab : Tab w), Calls _ _ _ _ (fun e w' => e = .returned (.string (numeral (num h l % 10000000000000000000))) ∧ _) at HF
  generalize (Lib.decDigits (num h l % 10000000000000000000).toNat).length = n at *
  have hcast : (19 : Int) - (n : Int) = ((19 - n : Nat) : Int) := by omega
  have hcw : IntKind.i64.wrap ((19 : Int) - (n : Int)) = ((19 - n : Nat) : Int) := by rw [IntKind.wrap_i64]; omega
  generalize (⟨(List.replicate (19 - n) 48).toArray⟩ : ByteArray) = z at *
  generalize (19 - n : Nat) = c at *
  generalize numeral (num h l % 10000000000000000000) = s at *
  generalize numeral (num h l / 10000000000000000000) = t at *
  generalize num h l % 10000000000000000000 = r at *
  generalize num (h % 10000000000000000000) l / 10000000000000000000 = q at *
  have hq : IntKind.u64.wrap (h.tdiv 10000000000000000000) = h / 10000000000000000000 := tdiv_wrap h1.1 h1.2 (by omega)
  have hm : h.tmod 10000000000000000000 = h % 10000000000000000000 := Int.tmod_eq_emod_of_nonneg h1.1
  have hmw : IntKind.u64.wrap (h % 10000000000000000000) = h % 10000000000000000000 := by rw [IntKind.wrap_u64]; unfold Word at hrw; omega
  generalize h / 10000000000000000000 = x at *
  generalize h % 10000000000000000000 = y at *
  clear hdm p1 p2 p3 hrw
  have ha1 : ∀ w, (Op.stringOp .add t z).run Tryd.prog w = .ok (.string (t ++ z)) w := fun w => run_string_add_sum w t z (by omega)
  have ha2 : ∀ w, (Op.stringOp .add (t ++ z) s).run Tryd.prog w = .ok (.string (t ++ z ++ s)) w := fun w => run_string_add_sum w (t ++ z) s (by rw [ByteArray.size_append]; omega)
  have hb1 : ¬ 9223372036854775807 < t.size + z.size := by omega
  have hb2 : ¬ 9223372036854775807 < t.size + z.size + s.size := by omega
  clear hls hlt hlz
  go_enter Tryd.func34, Tryd.ntmps34
  go_wp2_with fail
  go_quiet (fail)
  go_wp2_with fail
  refine (HD _).mono ?_; rintro e w1 ⟨rfl, hB1⟩; obtain ⟨hc1, hf1⟩ := keep hB1; have hz1 := hB1.size; try simp at hz1
  go_wp2_with fail
  have T1 : Tab w1 := htab.below (by (repeat' (first | (with_reducible exact Below.refl _ _) | (with_reducible assumption) | (with_reducible refine Below.alloc ?_ ?_ _) | (with_reducible refine Below.drew ?_) | (with_reducible refine drewN_below ?_ _) | (with_reducible refine Below.setCell ?_ ?_ _) | (with_reducible refine below_call (by with_reducible assumption) ?_ ?_) | (first | (with_reducible exact Nat.le_refl _) | (with_reducible assumption) | omega | (simp; done) | (simp; omega)))))
  refine (HF _ T1).mono ?_; rintro e w2 ⟨rfl, hB2⟩; obtain ⟨hc2, hf2⟩ := keep hB2; have hz2 := hB2.size; try simp at hz2
  have T2 : Tab w2 := htab.below (by (repeat' (first | (with_reducible exact Below.refl _ _) | (with_reducible assumption) | (with_reducible refine Below.alloc ?_ ?_ _) | (with_reducible refine Below.drew ?_) | (with_reducible refine drewN_below ?_ _) | (with_reducible refine Below.setCell ?_ ?_ _) | (with_reducible refine below_call (by with_reducible assumption) ?_ ?_) | (first | (with_reducible exact Nat.le_refl _) | (with_reducible assumption) | omega | (simp; done) | (simp; omega)))))
  go_wp2_with fail
  refine (HT _ T2).mono ?_; rintro e w3 ⟨rfl, hB3⟩; obtain ⟨hc3, hf3⟩ := keep hB3; have hz3 := hB3.size; try simp at hz3
  go_wp2_with fail
  refine (HR _).mono ?_; rintro e w4 ⟨rfl, hB4⟩; obtain ⟨hc4, hf4⟩ := keep hB4; have hz4 := hB4.size; try simp at hz4
  go_wp2
  go_ret
  exact ⟨rfl, by (repeat' (first | (with_reducible exact Below.refl _ _) | (with_reducible assumption) | (with_reducible refine Below.alloc ?_ ?_ _) | (with_reducible refine Below.drew ?_) | (with_reducible refine drewN_below ?_ _) | (with_reducible refine Below.setCell ?_ ?_ _) | (with_reducible refine below_call (by with_reducible assumption) ?_ ?_) | (first | (with_reducible exact Nat.le_refl _) | (with_reducible assumption) | omega | (simp; done) | (simp; omega))))⟩

theorem text_any (h l : Int) (h1 : Word h) (h2 : Word l) (w : World) (htab : Tab w) :
    Calls Tryd.prog 34 #[.agg #[.int .u64 h, .int .u64 l]] w fun e w' => e = .returned (.string (numeral (num h l))) ∧ Below w.heap.size w w' := by
  have low : ∀ l, Word l → ∀ w, Tab w → Calls Tryd.prog 34 #[U2 0 l] w fun e w' => e = .returned (.string (numeral (num 0 l))) ∧ Below w.heap.size w w' := by
    intro l hl w ht
    rw [show num 0 l = l from by unfold num; omega]
    exact text_low l hl w ht
  have mid : ∀ h l, Word h → Word l → h < 10000000000000000000 → ∀ w, Tab w → Calls Tryd.prog 34 #[U2 h l] w fun e w' => e = .returned (.string (numeral (num h l))) ∧ Below w.heap.size w w' := by
    intro h l hh hl hlt w ht
    by_cases h0 : h = 0
    · subst h0; exact low l hl w ht
    · refine text_step h l hh hl h0 w ht fun w ht => ?_
      have hh := hh; have hl := hl
      have e : h / 10000000000000000000 = 0 := by unfold Word at hh; omega
      have e2 : num (h % 10000000000000000000) l / 10000000000000000000 = num h l / 10000000000000000000 := by unfold num Word at *; omega
      rw [e, e2]
      have := low (num h l / 10000000000000000000) (by unfold num Word at *; omega) w ht
      rwa [show num 0 (num h l / 10000000000000000000) = num h l / 10000000000000000000 from by unfold num; omega] at this
  by_cases h0 : h = 0
  · subst h0; exact low l h2 w htab
  · refine text_step h l h1 h2 h0 w htab fun w ht => ?_
    have e : num (h / 10000000000000000000) (num (h % 10000000000000000000) l / 10000000000000000000) = num h l / 10000000000000000000 := by unfold num Word at *; omega
    rw [← e]
    exact mid _ _ (by unfold Word at *; omega) (by unfold num Word at *; omega) (by unfold Word at *; omega) w ht
end Go.Proofs.YthamagnlpndnoaaDoor
