/- pergolaref1: words, join, times. -/
import Derived.Test.YtamhngjhgdmgbaaMulMath
import Derived.Test.YtamhngjhgdmgbaaBits
import Derived.Deep.RegionHeld3
import Derived.Deep.AppendLies
import Derived.Deep.OwnRows
import Derived.Deep.QuietTactic
import Derived.BigQuiet
import Derived.Laws.OwnMore
namespace Go.Proofs.Ytamhngjhgdmgbaa
open Go.RowKit

theorem info_u64 : (Try.prog.info? 30).map (fun i => (i.zero, i.size, i.bytes)) = some (some (.int .u64 0), 1, 8) := by kernel_rfl
theorem mask32 (x : Int) (h : Word x) : bits .and .u64 x 4294967295 = x % 4294967296 := by
  obtain ⟨n, rfl⟩ := Int.eq_ofNat_of_zero_le h.1
  rw [Mul64.maskN n (by unfold Word at h; omega)]; rfl

/-- The numbers stand in block g, one behind the other. -/
def NumsAt (w : World) (g : Nat) (l : List Int) : Prop := ∀ i, i < l.length → w.cell? ⟨g, i, none⟩ = some (.int .u64 (l.getD i 0))
/-- A slice that a call has made: 2 words of 32 bits for each word. -/
def WordsPost (xs : List Int) (w : World) (e : Ending) (w' : World) : Prop :=
  ∃ g cap, e = .returned (.slice (some ⟨g, 0, none⟩) (2 * xs.length) cap) ∧ NumsAt w' g (wordsOf xs) ∧ Below w.heap.size w w' ∧ w.heap.size ≤ g ∧ g < w'.heap.size

theorem own_base {w : World} {base : Nat} {e : TypeId} {size : Nat} {v : Value} {n : Nat} {xs : List Value} (h : w.ownsRow base e size v n xs) {g : Nat} (hg : v.ownBlock = some g) : base ≤ g := by
  rcases h.2 with ⟨rfl, _⟩ | ⟨g', cap, cur, rfl, hb, _⟩
  · simp [Value.ownBlock] at hg
  · simp [Value.ownBlock] at hg; omega
/-- A cell ahead of the call's own stays through an append. -/
theorem grow_cell {w w1 w2 : World} {base : Nat} {e : TypeId} {size : Nat} {v : Value} {n : Nat} {xs : List Value} {b o : Nat} {u : Value} (hg : w1.grownBy w2 v.ownBlock) (hown : w.ownsRow base e size v n xs) (hb : b < base) (hc : w1.cell? ⟨b, o, none⟩ = some u) : w2.cell? ⟨b, o, none⟩ = some u := by
  rw [hg.cell_far ⟨b, o, none⟩ (lt_of_cell hc) (fun he => by have := own_base hown he.symm; dsimp only at this; omega)]; exact hc
theorem two_new (w : World) (x y : Value) (t : TypeId) : ∀ (j : Nat) (u : Value), [x, y][j]? = some u → (w.alloc (.cells #[x, y] t)).cell? ((⟨w.heap.size, 0, none⟩ : Addr).add j) = some u := by
  intro j u hu
  have hadd : (⟨w.heap.size, 0, none⟩ : Addr).add j = ⟨w.heap.size, j, none⟩ := by unfold Addr.add; split <;> simp_all
  rw [hadd, World.cell?_alloc_new]
  simpa using hu

theorem wordsOf_take (xs : List Int) (k : Nat) (h : k < xs.length) : wordsOf (xs.take (k + 1)) = wordsOf (xs.take k) ++ [xs.getD k 0 % 4294967296, xs.getD k 0 / 4294967296] := by
  rw [List.take_succ_eq_append_getElem h, wordsOf_snoc, List.getD_eq_getElem?_getD, List.getElem?_eq_getElem h]; rfl

set_option maxHeartbeats 1000000 in
theorem words_any (b : Nat) (xs : List Int) (w : World) (n : Nat) (hn : xs.length ≤ n) (hn' : n ≤ xs.length) (h0 : 0 < n) (hm : n ≤ 1000) (hb : b < w.heap.size) (hx : ∀ x ∈ xs, Word x) (hp : NumsAt w b xs) :
    Calls Try.prog 42 #[.slice (some ⟨b, 0, none⟩) n n] w (WordsPost xs w) := by
  obtain ⟨i0, hi0, hz0, hz1, hz2⟩ := info_parts info_u64
  go_enter Try.func42, Try.ntmps42
  go_wp2
  go_loopw [3, 4] (fun v t wr => ∃ k : Nat, k ≤ n ∧ t = .int .i64 k ∧ wr.ownsRow w.heap.size 30 1 v (2 * k) ((wordsOf (xs.take k)).map (Value.int .u64)) ∧ Below w.heap.size w wr) (fun _ t _ => n - (intOf t).toNat)
  case atStart => exact ⟨0, Nat.zero_le _, rfl, ⟨by simp [wordsOf], .inl ⟨rfl, rfl⟩⟩, Below.refl _ _⟩
  case round =>
    obtain ⟨k, hk, rfl, hown, hB⟩ := hrel
    by_cases hlt : k < n
    · have hc := hp k (by omega)
      rw [← hB.cell (p := ⟨b, k, none⟩) hb] at hc
      have hw := hx (xs.getD k 0) (by rw [List.getD_eq_getElem?_getD, List.getElem?_eq_getElem (by omega)]; exact List.getElem_mem _)
      have hs := wordsOf_take xs k (by omega)
      generalize xs.getD k 0 = x at hc hw hs
      have hmask := mask32 x hw
      have HS := Lib.hid hs; clear hs
      obtain ⟨x0, x1⟩ := hw
      go_wp2
      go_region_held3 (fun z => z.cell? ⟨b, k, none⟩ = some (.int .u64 x)) (first | (simp [*, go_sem]; done) | (exact grow_cell hgrow hown hb (by simp [*, go_sem])))
        (first | (refine step_append_lies _ rfl (.tmp 11) (.tmp 22) _ rfl w.heap.size 30 i0 _ 1 8 Try.underlying82 hi0 hz0 hz1 hz2 rfl (by decide) u3 (2 * k) _ rfl ((hown.drew).alloc _) ⟨wr.heap.size, 0, none⟩ 2 2 [.int .u64 (x % 4294967296), .int .u64 (x / 4294967296)] rfl rfl (two_new _ _ _ _) (by intro u hu; simp at hu; rcases hu with rfl | rfl <;> rfl) (by decide) (by unfold maxLen; omega) (by omega) (by have := hB.size; simp; omega) _ rfl ?_; intro g cap w1 hown1 hgrow hat hlt1))
      go_wp2
      go_roundw
      case rel =>
        refine ⟨k + 1, by omega, by go_num, ?_, ?_⟩
        · rw [HS.out, List.map_append, show 2 * (k + 1) = 2 * k + 2 from by omega]; exact hown1
        · have := hB.size
          exact ((hB.drew).alloc (by simp; omega) _).grown hgrow (by simp; omega) (fun g' hg' => own_base hown hg')
      case measure => simp [intOf]; omega
    · go_wp2
      go_ret
      have hkn : k = n := by omega
      have hkl : xs.take k = xs := List.take_of_length_le (by omega)
      rw [hkl] at hown
      obtain ⟨g, cap, hv, hbg, hlt1⟩ := hown.form (by omega)
      refine ⟨g, cap, ?_, ?_, hB, hbg, hlt1⟩
      · show Ending.returned u3 = _
        rw [hv, show 2 * k = 2 * xs.length from by omega]
      · intro j hj
        have hcell := hown.cells (g := g) (by rw [hv]; rfl) j (.int .u64 ((wordsOf xs).getD j 0)) (by rw [List.getElem?_map, List.getElem?_eq_getElem hj, List.getD_eq_getElem?_getD, List.getElem?_eq_getElem hj]; rfl)
        have hadd : (⟨g, 0, none⟩ : Addr).add j = ⟨g, j, none⟩ := by unfold Addr.add; split <;> simp_all
        rw [hadd] at hcell
        exact hcell

theorem join_bits (lo hi : Int) (h0 : 0 ≤ lo ∧ lo < 4294967296) (h1 : 0 ≤ hi ∧ hi < 4294967296) : bits .or .u64 lo (hi * 4294967296) = lo + hi * 4294967296 := by
  obtain ⟨a, rfl⟩ := Int.eq_ofNat_of_zero_le h0.1
  obtain ⟨c, rfl⟩ := Int.eq_ofNat_of_zero_le h1.1
  have h := bits_or_u64_nat a (c * 4294967296) (by omega) (by omega)
  have e : a ||| (c * 4294967296) = a + c * 4294967296 := by
    have := Nat.two_pow_add_eq_or_of_lt (i := 32) (b := a) (by omega) c
    rw [Nat.or_comm, Nat.mul_comm c, Nat.add_comm]; exact this.symm
  rw [e] at h
  simpa using h

set_option maxHeartbeats 400000 in
/-- w[2k] | w[2k+1]<<32. -/
theorem join_any (g n cap : Nat) (l : List Int) (k : Int) (w : World) (hk0 : 0 ≤ k) (hk1 : k ≤ 100) (hl : 2 * k.toNat + 1 < l.length) (hn : l.length ≤ n) (hs : Small l) (hp : NumsAt w g l) :
    Calls Try.prog 43 #[.slice (some ⟨g, 0, none⟩) n cap, .int .i64 k] w fun e w' => e = .returned (.int .u64 (l.getD (2 * k.toNat) 0 + l.getD (2 * k.toNat + 1) 0 * 4294967296)) ∧ Below w.heap.size w w' := by
  obtain ⟨k, rfl⟩ := Int.eq_ofNat_of_zero_le hk0
  simp only [Int.toNat_natCast] at *
  have c0 := hp (2 * k) (by omega)
  have c1 := hp (2 * k + 1) (by omega)
  have s0 := hs (2 * k)
  have s1 := hs (2 * k + 1)
  generalize l.getD (2 * k) 0 = lo at *
  generalize l.getD (2 * k + 1) 0 = hi at *
  have hj := join_bits lo hi s0 s1
  obtain ⟨s2, s3⟩ := s0
  obtain ⟨s4, s5⟩ := s1
  have hi1 : (2 : Int) * (k : Int) < (n : Int) := by omega
  have hi2 : (2 : Int) * (k : Int) + 1 < (n : Int) := by omega
  clear hp hs
  go_enter Try.func43, Try.ntmps43
  go_wp2
  go_quiet (fail)
  go_wp2
  go_ret
  exact ⟨rfl, ⟨rfl, rfl, rfl, Nat.le_refl _, fun _ _ => rfl⟩⟩
end Go.Proofs.Ytamhngjhgdmgbaa
