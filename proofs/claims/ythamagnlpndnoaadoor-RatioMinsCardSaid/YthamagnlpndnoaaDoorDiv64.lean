/- math/bits: LeadingZeros64, Div64. -/
import Derived.Test.YthamagnlpndnoaaDoorLen64
import Derived.Test.YthamagnlpndnoaaDoorDiv64Math
import Derived.Test.YthamagnlpndnoaaDoorRegion
import Derived.Test.YthamagnlpndnoaaDoorBits
import Derived.Lib.Hide
namespace Go.Proofs.YthamagnlpndnoaaDoor
open Go.RowKit

theorem lz64_any (y : Int) (h : Word y) (w : World) :
    Calls Tryd.prog 62 #[.int .u64 y] w fun e w' => e = .returned (.int .i64 (lzV y)) ∧ w = w' := by
  have h0 := h.1
  have h1 : y ≤ 18446744073709551615 := by have := h.2; omega
  have l := Lib.bitLen_le y.toNat 64 (Nat.le_refl _) (by omega)
  have e8 : (64 - (Lib.bitLen y.toNat : Int) + 9223372036854775808) % 18446744073709551616 - 9223372036854775808 = 64 - (Lib.bitLen y.toNat : Int) := by omega
  clear h
  go_enter Tryd.func62, Tryd.ntmps62
  go_wp2_with (go_at_call 73; refine (len64_any y _ h0 h1).mono ?_; rintro e w' ⟨rfl, rfl⟩)
  go_ret
  refine ⟨?_, rfl⟩
  unfold lzV
  rw [← e8]
  rfl

theorem mask_i {x : Int} (h : Word x) : bits .and .u64 x 4294967295 = x % 4294967296 := by
  obtain ⟨n, rfl⟩ := Int.eq_ofNat_of_zero_le h.1
  have := Mul64.maskN n (by have := h.2; omega)
  rw [this]; omega
theorem or_shift {h b : Int} (n : Nat) (h0 : 0 ≤ h) (b0 : 0 ≤ b) (b1 : b < 2 ^ n) (hs : h * 2 ^ n + b < 18446744073709551616) : bits .or .u64 (h * 2 ^ n) b = h * 2 ^ n + b := by
  obtain ⟨x, rfl⟩ := Int.eq_ofNat_of_zero_le h0
  obtain ⟨c, rfl⟩ := Int.eq_ofNat_of_zero_le b0
  have e0 : (x : Int) * 2 ^ n = ((2 ^ n * x : Nat) : Int) := by push_cast; rw [Int.mul_comm]
  have b2 : c < 2 ^ n := by
    have : ((2 : Int) ^ n) = ((2 ^ n : Nat) : Int) := by push_cast; rfl
    omega
  rw [e0] at hs ⊢
  have e := bits_or_u64_nat (2 ^ n * x) c (by omega) (by omega)
  rw [← Nat.two_pow_add_eq_or_of_lt b2 x] at e
  rw [e]; omega
theorem tdiv_wrap {u d : Int} (h0 : 0 ≤ u) (h1 : u < 18446744073709551616) (hd : 0 < d) : IntKind.u64.wrap (u.tdiv d) = u / d := by
  have a := Int.ediv_nonneg h0 (Int.le_of_lt hd)
  have b := Int.ediv_le_self (b := d) h0
  rw [Int.tdiv_eq_ediv_of_nonneg h0, IntKind.wrap_u64]; omega
theorem mod_wrap (a b c : Int) (q r : Int) (h : b * q + r = a * 4294967296 + c) (r0 : 0 ≤ r) (r1 : r < 18446744073709551616) :
    IntKind.u64.wrap (IntKind.u64.wrap (IntKind.u64.wrap (a * 4294967296) + c) - IntKind.u64.wrap (q * b)) = r := by
  rw [IntKind.wrap_u64, IntKind.wrap_u64, IntKind.wrap_u64, IntKind.wrap_u64, Int.mul_comm q b]; omega

set_option maxHeartbeats 1000000 in
theorem div64_low (lo y : Int) (h2 : Word lo) (h3 : Word y) (hy : 0 < y) (w : World) :
    Calls Tryd.prog 51 #[.int .u64 0, .int .u64 lo, .int .u64 y] w fun e w' => e = .returned (.tuple #[.int .u64 (lo / y), .int .u64 (lo % y)]) ∧ Below w.heap.size w w' := by
  have hz : ¬ y = 0 := by omega
  have hq : IntKind.u64.wrap (lo.tdiv y) = lo / y := tdiv_wrap h2.1 h2.2 hy
  have e2 : lo.tmod y = lo % y := Int.tmod_eq_emod_of_nonneg h2.1
  have e3 : IntKind.u64.wrap (lo % y) = lo % y := by
    have a := Int.emod_nonneg lo hz; have b := Int.emod_lt_of_pos lo hy; have c := h3.2
    rw [IntKind.wrap_u64]; omega
  generalize lo / y = q at *
  generalize lo % y = r at *
  go_enter Tryd.func51, Tryd.ntmps51
  go_wp2_with fail
  go_region
  go_wp2
  go_ret2
  exact ⟨rfl, by (repeat' (first | (with_reducible exact Below.refl _ _) | (with_reducible assumption) | (with_reducible refine Below.alloc ?_ ?_ _) | (with_reducible refine Below.drew ?_) | (with_reducible refine drewN_below ?_ _) | (with_reducible refine Below.setCell ?_ ?_ _) | (with_reducible refine below_call (by with_reducible assumption) ?_ ?_) | (first | (with_reducible exact Nat.le_refl _) | (with_reducible assumption) | omega | (simp; done) | (simp; omega))))⟩

/-- One half's loop: the guess is brought down. -/
def LoopAt (u v Y : Int) (s t : Value) : Prop := ∃ q r : Int, s = .int .u64 q ∧ t = .int .u64 r ∧ Guess u v Y q r ∧ 0 ≤ q ∧ r < 4294967296
theorem guess_words {u v Y q r : Int} (g : Guess u v Y q r) (q0 : 0 ≤ q) :
    IntKind.u64.wrap (q * (Y % 4294967296)) = q * (Y % 4294967296) ∧ 0 ≤ q * (Y % 4294967296) ∧ q * (Y % 4294967296) < 18446744073709551616 := by
  have m0 := Int.mul_nonneg q0 (show 0 ≤ Y % 4294967296 by omega)
  have m1 := Int.mul_le_mul g.top (show Y % 4294967296 ≤ 4294967295 by omega) (show 0 ≤ Y % 4294967296 by omega) (by omega)
  refine ⟨by rw [IntKind.wrap_u64]; omega, m0, by omega⟩

set_option maxHeartbeats 4000000 in
theorem div64_core (hi lo y Y H D U V q1 r1 T1 R1 q0 r0 T0 R0 : Int) (hlt : hi < y) (hh : 0 < hi) (h3 : Word y) (z0 : 0 ≤ lzV y) (z1 : lzV y ≤ 63)
    (eY : IntKind.u64.wrap (y * 2 ^ (lzV y).toNat) = Y) (eH : IntKind.u64.wrap (hi * 2 ^ (lzV y).toNat) = H) (eD : lo / 2 ^ (64 - lzV y).toNat = D) (eU : bits .or .u64 H D = U) (eL : IntKind.u64.wrap (lo * 2 ^ (lzV y).toNat) = V)
    (eN0 : bits .and .u64 Y 4294967295 = Y % 4294967296) (eV0 : bits .and .u64 V 4294967295 = V % 4294967296) (hV0 : 0 ≤ V) (hV1 : V < 18446744073709551616)
    (N : Norm U (V / 4294967296) Y) (N2 : Norm R1 (V % 4294967296) Y)
    (eQ1 : IntKind.u64.wrap (U.tdiv (Y / 4294967296)) = q1) (er1 : IntKind.u64.wrap (U - IntKind.u64.wrap (q1 * (Y / 4294967296))) = r1) (G1 : Guess U (V / 4294967296) Y q1 r1) (q1p : 0 ≤ q1) (hr1 : r1 < 4294967296)
    (hT1 : T1 = (U * 4294967296 + V / 4294967296) / Y) (T10 : 0 ≤ T1) (T11 : T1 < 4294967296) (eR1 : IntKind.u64.wrap (IntKind.u64.wrap (IntKind.u64.wrap (U * 4294967296) + V / 4294967296) - IntKind.u64.wrap (T1 * Y)) = R1)
    (eQ0 : IntKind.u64.wrap (R1.tdiv (Y / 4294967296)) = q0) (er0 : IntKind.u64.wrap (R1 - IntKind.u64.wrap (q0 * (Y / 4294967296))) = r0) (G0 : Guess R1 (V % 4294967296) Y q0 r0) (q0p : 0 ≤ q0) (hr0 : r0 < 4294967296)
    (hT0 : T0 = (R1 * 4294967296 + V % 4294967296) / Y) (T00 : 0 ≤ T0) (T01 : T0 < 4294967296) (eR0 : IntKind.u64.wrap (IntKind.u64.wrap (IntKind.u64.wrap (R1 * 4294967296) + V % 4294967296) - IntKind.u64.wrap (T0 * Y)) = R0) (w : World) :
    Calls Tryd.prog 51 #[.int .u64 hi, .int .u64 lo, .int .u64 y] w fun e w' => e = .returned (.tuple #[.int .u64 (T1 * 4294967296 + T0), .int .u64 (R0 / 2 ^ (lzV y).toNat)]) ∧ Below w.heap.size w w' := by
  have HG1 := Lib.hid G1; have HG0 := Lib.hid G0; have HN := Lib.hid N; have HN2 := Lib.hid N2; have HT1 := Lib.hid hT1; have HT0 := Lib.hid hT0; have HE1 := Lib.hid er0; have HE2 := Lib.hid eQ0; have HE3 := Lib.hid eR0; have HE4 := Lib.hid eR1
  have y1 := N.y1; have y2 := N.y2
  clear G1 G0 N N2 hT1 hT0
  have n0 : ¬ Y / 4294967296 = 0 := by omega
  go_enter Tryd.func51, Tryd.ntmps51
  go_wp2_with fail
  refine (lz64_any y h3 _).mono ?_; rintro e w' ⟨rfl, rfl⟩
  clear h3
  go_wp2_with fail
  -- the first half
  go_loop [15, 16] (fun s t => LoopAt U (V / 4294967296) Y s t) (fun s _ => (intOf s).toNat)
  case atStart => exact ⟨q1, r1, rfl, rfl, HG1.out, q1p, hr1⟩
  case round =>
    obtain ⟨q, r, rfl, rfl, g, qp, hr⟩ := hrel
    obtain ⟨m1, m2, m3⟩ := guess_words g qp
    have rp := g.r0
    have gt := g.top
    have HG := Lib.hid g
    clear g
    by_cases hb : 4294967296 ≤ q
    · by_cases hr2 : 4294967296 ≤ r + Y / 4294967296
      · have gn := guess_big HN.out HG.out (.inl hb)
        have hq : q - 1 = T1 := by rw [HT1.out]; exact guess_end HN.out gn hr2 (by omega)
        clear m1 m2 m3 HG gn
        go_wp2
        go_loop [18, 16] (fun s t => LoopAt R1 (V % 4294967296) Y s t) (fun s _ => (intOf s).toNat)
        case atStart => exact ⟨q0, r0, rfl, rfl, HG0.out, q0p, hr0⟩
        case round =>
          obtain ⟨x, z, rfl, rfl, g, xp, hz⟩ := hrel
          obtain ⟨l1, l2, l3⟩ := guess_words g xp
          have zp := g.r0
          have xt := g.top
          have HX := Lib.hid g
          clear g
          by_cases kb : 4294967296 ≤ x
          · by_cases kr2 : 4294967296 ≤ z + Y / 4294967296
            · have gn := guess_big HN2.out HX.out (.inl kb)
              have hx : x - 1 = T0 := by rw [HT0.out]; exact guess_end HN2.out gn kr2 (by omega)
              clear l1 l2 l3 HX gn
              go_wp2
              go_ret2
              exact ⟨rfl, by (repeat' (first | (with_reducible exact Below.refl _ _) | (with_reducible assumption) | (with_reducible refine Below.alloc ?_ ?_ _) | (with_reducible refine Below.drew ?_) | (with_reducible refine drewN_below ?_ _) | (with_reducible refine Below.setCell ?_ ?_ _) | (with_reducible refine below_call (by with_reducible assumption) ?_ ?_) | (first | (with_reducible exact Nat.le_refl _) | (with_reducible assumption) | omega | (simp; done) | (simp; omega))))⟩
            · go_wp2
              go_round
              case rel => exact ⟨x - 1, z + Y / 4294967296, rfl, rfl, guess_big HN2.out HX.out (.inl kb), by omega, by omega⟩
              case measure => simp [intOf]; omega
          · by_cases kc : 4294967296 * z + V % 4294967296 < x * (Y % 4294967296)
            · have hx0 : 1 ≤ x := by
                rcases Int.lt_or_le x 1 with h | h
                · have : x = 0 := by omega
                  rw [this, Int.zero_mul] at kc; omega
                · exact h
              by_cases kr2 : 4294967296 ≤ z + Y / 4294967296
              · have gn := guess_big HN2.out HX.out (.inr kc)
                have hx : x - 1 = T0 := by rw [HT0.out]; exact guess_end HN2.out gn kr2 (by omega)
                clear HX gn
                go_wp2
                go_ret2
                exact ⟨rfl, by (repeat' (first | (with_reducible exact Below.refl _ _) | (with_reducible assumption) | (with_reducible refine Below.alloc ?_ ?_ _) | (with_reducible refine Below.drew ?_) | (with_reducible refine drewN_below ?_ _) | (with_reducible refine Below.setCell ?_ ?_ _) | (with_reducible refine below_call (by with_reducible assumption) ?_ ?_) | (first | (with_reducible exact Nat.le_refl _) | (with_reducible assumption) | omega | (simp; done) | (simp; omega))))⟩
              · go_wp2
                go_round
                case rel => exact ⟨x - 1, z + Y / 4294967296, rfl, rfl, guess_big HN2.out HX.out (.inr kc), by omega, by omega⟩
                case measure => simp [intOf]; omega
            · have hx : x = T0 := by rw [HT0.out]; exact guess_small HN2.out HX.out (by omega)
              clear HX
              subst hx
              go_wp2
              go_ret2
              exact ⟨rfl, by (repeat' (first | (with_reducible exact Below.refl _ _) | (with_reducible assumption) | (with_reducible refine Below.alloc ?_ ?_ _) | (with_reducible refine Below.drew ?_) | (with_reducible refine drewN_below ?_ _) | (with_reducible refine Below.setCell ?_ ?_ _) | (with_reducible refine below_call (by with_reducible assumption) ?_ ?_) | (first | (with_reducible exact Nat.le_refl _) | (with_reducible assumption) | omega | (simp; done) | (simp; omega))))⟩
      · go_wp2
        go_round
        case rel => exact ⟨q - 1, r + Y / 4294967296, rfl, rfl, guess_big HN.out HG.out (.inl hb), by omega, by omega⟩
        case measure => simp [intOf]; omega
    · by_cases hc : 4294967296 * r + V / 4294967296 < q * (Y % 4294967296)
      · have hq0 : 1 ≤ q := by
          rcases Int.lt_or_le q 1 with h | h
          · have : q = 0 := by omega
            rw [this, Int.zero_mul] at hc; omega
          · exact h
        by_cases hr2 : 4294967296 ≤ r + Y / 4294967296
        · have gn := guess_big HN.out HG.out (.inr hc)
          have hq : q - 1 = T1 := by rw [HT1.out]; exact guess_end HN.out gn hr2 (by omega)
          clear HG gn
          go_wp2
          go_loop [18, 16] (fun s t => LoopAt R1 (V % 4294967296) Y s t) (fun s _ => (intOf s).toNat)
          case atStart => exact ⟨q0, r0, rfl, rfl, HG0.out, q0p, hr0⟩
          case round =>
            obtain ⟨x, z, rfl, rfl, g, xp, hz⟩ := hrel
            obtain ⟨l1, l2, l3⟩ := guess_words g xp
            have zp := g.r0
            have xt := g.top
            have HX := Lib.hid g
            clear g
            by_cases kb : 4294967296 ≤ x
            · by_cases kr2 : 4294967296 ≤ z + Y / 4294967296
              · have gn := guess_big HN2.out HX.out (.inl kb)
                have hx : x - 1 = T0 := by rw [HT0.out]; exact guess_end HN2.out gn kr2 (by omega)
                clear l1 l2 l3 HX gn
                go_wp2
                go_ret2
                exact ⟨rfl, by (repeat' (first | (with_reducible exact Below.refl _ _) | (with_reducible assumption) | (with_reducible refine Below.alloc ?_ ?_ _) | (with_reducible refine Below.drew ?_) | (with_reducible refine drewN_below ?_ _) | (with_reducible refine Below.setCell ?_ ?_ _) | (with_reducible refine below_call (by with_reducible assumption) ?_ ?_) | (first | (with_reducible exact Nat.le_refl _) | (with_reducible assumption) | omega | (simp; done) | (simp; omega))))⟩
              · go_wp2
                go_round
                case rel => exact ⟨x - 1, z + Y / 4294967296, rfl, rfl, guess_big HN2.out HX.out (.inl kb), by omega, by omega⟩
                case measure => simp [intOf]; omega
            · by_cases kc : 4294967296 * z + V % 4294967296 < x * (Y % 4294967296)
              · have hx0 : 1 ≤ x := by
                  rcases Int.lt_or_le x 1 with h | h
                  · have : x = 0 := by omega
                    rw [this, Int.zero_mul] at kc; omega
                  · exact h
                by_cases kr2 : 4294967296 ≤ z + Y / 4294967296
                · have gn := guess_big HN2.out HX.out (.inr kc)
                  have hx : x - 1 = T0 := by rw [HT0.out]; exact guess_end HN2.out gn kr2 (by omega)
                  clear HX gn
                  go_wp2
                  go_ret2
                  exact ⟨rfl, by (repeat' (first | (with_reducible exact Below.refl _ _) | (with_reducible assumption) | (with_reducible refine Below.alloc ?_ ?_ _) | (with_reducible refine Below.drew ?_) | (with_reducible refine drewN_below ?_ _) | (with_reducible refine Below.setCell ?_ ?_ _) | (with_reducible refine below_call (by with_reducible assumption) ?_ ?_) | (first | (with_reducible exact Nat.le_refl _) | (with_reducible assumption) | omega | (simp; done) | (simp; omega))))⟩
                · go_wp2
                  go_round
                  case rel => exact ⟨x - 1, z + Y / 4294967296, rfl, rfl, guess_big HN2.out HX.out (.inr kc), by omega, by omega⟩
                  case measure => simp [intOf]; omega
              · have hx : x = T0 := by rw [HT0.out]; exact guess_small HN2.out HX.out (by omega)
                clear HX
                subst hx
                go_wp2
                go_ret2
                exact ⟨rfl, by (repeat' (first | (with_reducible exact Below.refl _ _) | (with_reducible assumption) | (with_reducible refine Below.alloc ?_ ?_ _) | (with_reducible refine Below.drew ?_) | (with_reducible refine drewN_below ?_ _) | (with_reducible refine Below.setCell ?_ ?_ _) | (with_reducible refine below_call (by with_reducible assumption) ?_ ?_) | (first | (with_reducible exact Nat.le_refl _) | (with_reducible assumption) | omega | (simp; done) | (simp; omega))))⟩
        · go_wp2
          go_round
          case rel => exact ⟨q - 1, r + Y / 4294967296, rfl, rfl, guess_big HN.out HG.out (.inr hc), by omega, by omega⟩
          case measure => simp [intOf]; omega
      · have hq : q = T1 := by rw [HT1.out]; exact guess_small HN.out HG.out (by omega)
        clear HG
        subst hq
        go_wp2
        go_loop [18, 16] (fun s t => LoopAt R1 (V % 4294967296) Y s t) (fun s _ => (intOf s).toNat)
        case atStart => exact ⟨q0, r0, rfl, rfl, HG0.out, q0p, hr0⟩
        case round =>
          obtain ⟨x, z, rfl, rfl, g, xp, hz⟩ := hrel
          obtain ⟨l1, l2, l3⟩ := guess_words g xp
          have zp := g.r0
          have xt := g.top
          have HX := Lib.hid g
          clear g
          by_cases kb : 4294967296 ≤ x
          · by_cases kr2 : 4294967296 ≤ z + Y / 4294967296
            · have gn := guess_big HN2.out HX.out (.inl kb)
              have hx : x - 1 = T0 := by rw [HT0.out]; exact guess_end HN2.out gn kr2 (by omega)
              clear l1 l2 l3 HX gn
              go_wp2
              go_ret2
              exact ⟨rfl, by (repeat' (first | (with_reducible exact Below.refl _ _) | (with_reducible assumption) | (with_reducible refine Below.alloc ?_ ?_ _) | (with_reducible refine Below.drew ?_) | (with_reducible refine drewN_below ?_ _) | (with_reducible refine Below.setCell ?_ ?_ _) | (with_reducible refine below_call (by with_reducible assumption) ?_ ?_) | (first | (with_reducible exact Nat.le_refl _) | (with_reducible assumption) | omega | (simp; done) | (simp; omega))))⟩
            · go_wp2
              go_round
              case rel => exact ⟨x - 1, z + Y / 4294967296, rfl, rfl, guess_big HN2.out HX.out (.inl kb), by omega, by omega⟩
              case measure => simp [intOf]; omega
          · by_cases kc : 4294967296 * z + V % 4294967296 < x * (Y % 4294967296)
            · have hx0 : 1 ≤ x := by
                rcases Int.lt_or_le x 1 with h | h
                · have : x = 0 := by omega
                  rw [this, Int.zero_mul] at kc; omega
                · exact h
              by_cases kr2 : 4294967296 ≤ z + Y / 4294967296
              · have gn := guess_big HN2.out HX.out (.inr kc)
                have hx : x - 1 = T0 := by rw [HT0.out]; exact guess_end HN2.out gn kr2 (by omega)
                clear HX gn
                go_wp2
                go_ret2
                exact ⟨rfl, by (repeat' (first | (with_reducible exact Below.refl _ _) | (with_reducible assumption) | (with_reducible refine Below.alloc ?_ ?_ _) | (with_reducible refine Below.drew ?_) | (with_reducible refine drewN_below ?_ _) | (with_reducible refine Below.setCell ?_ ?_ _) | (with_reducible refine below_call (by with_reducible assumption) ?_ ?_) | (first | (with_reducible exact Nat.le_refl _) | (with_reducible assumption) | omega | (simp; done) | (simp; omega))))⟩
              · go_wp2
                go_round
                case rel => exact ⟨x - 1, z + Y / 4294967296, rfl, rfl, guess_big HN2.out HX.out (.inr kc), by omega, by omega⟩
                case measure => simp [intOf]; omega
            · have hx : x = T0 := by rw [HT0.out]; exact guess_small HN2.out HX.out (by omega)
              clear HX
              subst hx
              go_wp2
              go_ret2
              exact ⟨rfl, by (repeat' (first | (with_reducible exact Below.refl _ _) | (with_reducible assumption) | (with_reducible refine Below.alloc ?_ ?_ _) | (with_reducible refine Below.drew ?_) | (with_reducible refine drewN_below ?_ _) | (with_reducible refine Below.setCell ?_ ?_ _) | (with_reducible refine below_call (by with_reducible assumption) ?_ ?_) | (first | (with_reducible exact Nat.le_refl _) | (with_reducible assumption) | omega | (simp; done) | (simp; omega))))⟩


theorem div64_any (hi lo y : Int) (h1 : Word hi) (h2 : Word lo) (h3 : Word y) (hlt : hi < y) (w : World) :
    Calls Tryd.prog 51 #[.int .u64 hi, .int .u64 lo, .int .u64 y] w fun e w' => e = .returned (.tuple #[.int .u64 (num hi lo / y), .int .u64 (num hi lo % y)]) ∧ Below w.heap.size w w' := by
  by_cases hh : hi = 0
  · subst hh
    have e : num 0 lo = lo := by unfold num; omega
    rw [e]
    exact div64_low lo y h2 h3 hlt w
  · have hp : 0 < hi := by have := h1.1; omega
    obtain ⟨z0, z1, z2, z3⟩ := lz_facts h3 (by omega)
    obtain ⟨pp, pq, pe⟩ := pwS_facts z0 z1
    obtain ⟨N, g0, g1, g2, g3, g4, g5, g6, gN⟩ := div_parts (h := hi) (l := lo) (y := y) (p := pwS y) (q := 2 ^ (64 - (lzV y)).toNat) h2 pp pq hlt h1.1 z2 z3
    have hQ := N.quo
    have N2 : Norm (((hi * pwS y + lo / 2 ^ (64 - lzV y).toNat) * 4294967296 + (lo % 2 ^ (64 - lzV y).toNat * pwS y) / 4294967296) % (y * pwS y)) ((lo % 2 ^ (64 - lzV y).toNat * pwS y) % 4294967296) (y * pwS y) :=
      ⟨N.y1, N.y2, hQ.2.2.1, hQ.2.2.2.1, by omega, by omega⟩
    have hQ2 := N2.quo
    have hs1 := guess_start N
    have hs2 := guess_start N2
    have y1 := N.y1
    have y2 := N.y2
    have hj := div_join (N := num hi lo) (y := y) (p := pwS y) (Y := y * pwS y) (U := hi * pwS y + lo / 2 ^ (64 - lzV y).toNat) (w := (lo % 2 ^ (64 - lzV y).toNat * pwS y) / 4294967296) (u0 := (lo % 2 ^ (64 - lzV y).toNat * pwS y) % 4294967296) (by omega) pp rfl
      (by rw [show (lo % 2 ^ (64 - lzV y).toNat * pwS y) / 4294967296 * 4294967296 + (lo % 2 ^ (64 - lzV y).toNat * pwS y) % 4294967296 = lo % 2 ^ (64 - lzV y).toNat * pwS y by omega]; exact gN) hQ.2.2.2.2 hQ2.2.2.2.2 hQ2.2.2.1 hQ2.2.2.2.1
    rw [← hj.1, ← hj.2]
    have start : ∀ {u v : Int}, Norm u v (y * pwS y) → IntKind.u64.wrap (u.tdiv (y * pwS y / 4294967296)) = u / (y * pwS y / 4294967296) ∧ IntKind.u64.wrap (u - IntKind.u64.wrap (u / (y * pwS y / 4294967296) * (y * pwS y / 4294967296))) = u % (y * pwS y / 4294967296) ∧ 0 ≤ u / (y * pwS y / 4294967296) := by
      intro u v n
      have nu := n.u0
      have nv := n.u1
      have a := Int.emod_nonneg u (show y * pwS y / 4294967296 ≠ 0 by omega)
      have b := Int.emod_lt_of_pos u (show 0 < y * pwS y / 4294967296 by omega)
      have c := Int.mul_ediv_add_emod u (y * pwS y / 4294967296)
      have d := Int.ediv_nonneg nu (show 0 ≤ y * pwS y / 4294967296 by omega)
      refine ⟨tdiv_wrap nu (by omega) (by omega), ?_, d⟩
      rw [IntKind.wrap_u64, IntKind.wrap_u64, Int.mul_comm (u / (y * pwS y / 4294967296))]
      omega
    have st1 := start N
    have st2 := start N2
    exact div64_core hi lo y (y * pwS y) (hi * pwS y) (lo / 2 ^ (64 - lzV y).toNat) (hi * pwS y + lo / 2 ^ (64 - lzV y).toNat) (lo % 2 ^ (64 - lzV y).toNat * pwS y) _ _ _ _ _ _ _ _ hlt hp h3 z0 z1
      (by show IntKind.u64.wrap (y * pwS y) = _; rw [IntKind.wrap_u64]; omega)
      (by show IntKind.u64.wrap (hi * pwS y) = _; rw [IntKind.wrap_u64]; omega)
      rfl
      (or_shift (lzV y).toNat h1.1 g2 g3 (by have := N.u1; show hi * pwS y + _ < _; omega))
      (by show IntKind.u64.wrap (lo * pwS y) = _; rw [IntKind.wrap_u64]; omega)
      (mask_i ⟨by omega, by omega⟩) (mask_i ⟨g0, g1⟩) g0 g1 N N2
      st1.1 st1.2.1 hs1.1 st1.2.2 hs1.2
      rfl hQ.1 hQ.2.1 (mod_wrap _ _ _ _ _ hQ.2.2.2.2 hQ.2.2.1 (by have := hQ.2.2.2.1; omega))
      st2.1 st2.2.1 hs2.1 st2.2.2 hs2.2
      rfl hQ2.1 hQ2.2.1 (mod_wrap _ _ _ _ _ hQ2.2.2.2.2 hQ2.2.2.1 (by have := hQ2.2.2.2.1; omega)) w
end Go.Proofs.YthamagnlpndnoaaDoor
