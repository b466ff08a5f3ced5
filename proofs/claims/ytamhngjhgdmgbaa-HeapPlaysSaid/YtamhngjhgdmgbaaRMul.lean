/- pergolaref1: Mul. -/
import Derived.Test.YtamhngjhgdmgbaaTimes
import Derived.Test.YtamhngjhgdmgbaaWide
namespace Go.Proofs.Ytamhngjhgdmgbaa
open Go.RowKit

/-- Words of one number that a caller has laid. -/
theorem words1 (W : World) (b : Nat) (hb : b = W.heap.size) (t : TypeId) (x : Int) (hx : Word x) :
    Calls Try.prog 42 #[.slice (some ⟨b, 0, none⟩) 1 1] (W.alloc (.cells #[.int .u64 x] t)) fun e w' =>
      ∃ g cap, e = .returned (.slice (some ⟨g, 0, none⟩) 2 cap) ∧ NumsAt w' g (wordsOf [x]) ∧ Below (W.alloc (.cells #[.int .u64 x] t)).heap.size (W.alloc (.cells #[.int .u64 x] t)) w' ∧ g < w'.heap.size := by
  refine (words_any b [x] _ 1 (by simp) (by simp) (by omega) (by omega) (by simp [hb]) (by simpa using hx) (by subst hb; intro i hi; match i, hi with | 0, _ => simp)).mono ?_
  rintro e w' ⟨g, cap, he, h1, h2, _, h4⟩
  exact ⟨g, cap, he, h1, h2, h4⟩
theorem words2 (W : World) (b : Nat) (hb : b = W.heap.size) (t : TypeId) (x y : Int) (hx : Word x) (hy : Word y) :
    Calls Try.prog 42 #[.slice (some ⟨b, 0, none⟩) 2 2] (W.alloc (.cells #[.int .u64 x, .int .u64 y] t)) fun e w' =>
      ∃ g cap, e = .returned (.slice (some ⟨g, 0, none⟩) 4 cap) ∧ NumsAt w' g (wordsOf [x, y]) ∧ Below (W.alloc (.cells #[.int .u64 x, .int .u64 y] t)).heap.size (W.alloc (.cells #[.int .u64 x, .int .u64 y] t)) w' ∧ g < w'.heap.size := by
  refine (words_any b [x, y] _ 2 (by simp) (by simp) (by omega) (by omega) (by simp [hb]) (by intro z hz; simp at hz; rcases hz with rfl | rfl <;> assumption) (by subst hb; intro i hi; match i, hi with | 0, _ => simp | 1, _ => simp)).mono ?_
  rintro e w' ⟨g, cap, he, h1, h2, _, h4⟩
  exact ⟨g, cap, he, h1, h2, h4⟩

theorem NumsAt.keep {w w' : World} {g : Nat} {l : List Int} (h : NumsAt w g l) {B : Nat} (hb : Below B w w') (hg : g < B) : NumsAt w' g l := fun i hi => by
  rw [hb.cell (p := ⟨g, i, none⟩) hg]; exact h i hi

theorem times_at (ga gb n m ca cb : Nat) (xs ys : List Int) (w : World) (hn : xs.length = n) (hm : ys.length = m) (hn1 : n ≤ 100) (hm1 : m ≤ 100) (k : Nat) (hk : k = n + m) (hga : ga < w.heap.size) (hgb : gb < w.heap.size)
    (hsa : Small xs) (hsb : Small ys) (hpa : NumsAt w ga xs) (hpb : NumsAt w gb ys) :
    Calls Try.prog 41 #[.slice (some ⟨ga, 0, none⟩) n ca, .slice (some ⟨gb, 0, none⟩) m cb] w fun e w' =>
      ∃ (g : Nat) (os : List Int), e = .returned (.slice (some ⟨g, 0, none⟩) k k) ∧ os.length = k ∧ NumsAt w' g os ∧ Small os ∧ val os = val xs * val ys ∧ Below w.heap.size w w' ∧ g < w'.heap.size := by
  subst hn; subst hm; subst hk
  refine (times_any ga gb _ _ ca cb xs ys w (Nat.le_refl _) (Nat.le_refl _) (Nat.le_refl _) (Nat.le_refl _) hn1 hm1 hga hgb hsa hsb hpa hpb).mono ?_
  rintro e w' ⟨g, os, he, h1, h2, h3, h4, h5, _, h7⟩
  exact ⟨g, os, he, h1, h2, h3, h4, h5, h7⟩

theorem val4 {os : List Int} (hl : os.length = 4) (hs : Small os) {N : Int} (hv : val os = N) : os.getD 0 0 + os.getD 1 0 * 4294967296 = loOf N ∧ os.getD 2 0 + os.getD 3 0 * 4294967296 = hiOf N := by
  match os, hl with
  | [a, b, c, d], _ =>
    have h0 := hs 0; have h1 := hs 1; have h2 := hs 2; have h3 := hs 3
    simp only [List.getD_cons_zero, List.getD_cons_succ] at *
    simp only [val, B32] at hv
    unfold loOf hiOf
    omega

theorem join_at (g n cap : Nat) (l : List Int) (k : Int) (R : Int) (w : World) (hk0 : 0 ≤ k) (hk1 : k ≤ 100) (hl : 2 * k.toNat + 1 < l.length) (hn : l.length ≤ n) (hs : Small l) (hp : NumsAt w g l) (hR : l.getD (2 * k.toNat) 0 + l.getD (2 * k.toNat + 1) 0 * 4294967296 = R) :
    Calls Try.prog 43 #[.slice (some ⟨g, 0, none⟩) n cap, .int .i64 k] w fun e w' => e = .returned (.int .u64 R) ∧ Below w.heap.size w w' := by
  rw [← hR]; exact join_any g n cap l k w hk0 hk1 hl hn hs hp

end Go.Proofs.Ytamhngjhgdmgbaa
